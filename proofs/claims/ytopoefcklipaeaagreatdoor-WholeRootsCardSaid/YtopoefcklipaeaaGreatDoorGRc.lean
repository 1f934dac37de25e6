/- The checksum on lists of bytes; walks of crc64.step, Update, Sum and tegularef08.steps, Update, Sum.
append as one step of a region that draws its order.
Walks of tegularef05 at the size 3: Prime, digits, number, Add, Mul.
Walk of tegularef06.coordinates at the size 3.
A design that is built up: its groups lie in memory of the callee. Walk of tegularef06.Projective at the size 3.
Walk of tegularef06.Projective at the size 3.
Complete, plainly: the list that follows, place by place. No program is walked here. -/
import Derived.Test.YtopoefcklipaeaaGreatDoorGRb
import Derived.Laws.BitsAllLaws
import Derived.Laws.Unary
import Derived.Deep.RegionLaw
import Derived.Deep.RegionHeld3
import Derived.Deep.DeepCutAuto
import Derived.Deep.QuietTactic
import Derived.BigQuiet
import Derived.Outline
namespace Go.Proofs.YtopoefcklipaeaaGreatDoor
open Go.RowKit
def polyN : Nat := 14514072000185962306
def stepN (x : Nat) : Nat := if x % 2 = 1 then (x / 2) ^^^ polyN else x / 2
def itN : Nat → Nat → Nat
 | 0, x => x
 | n + 1, x => stepN (itN n x)
def updN (x c : Nat) : Nat := itN 8 (x ^^^ c)
def crcF (l : List Nat) : Nat := l.foldl updN 18446744073709551615
def crcN (l : List Nat) : Nat := 18446744073709551615 - crcF l
theorem xor_lt64 {a b : Nat} (ha : a < 18446744073709551616) (hb : b < 18446744073709551616) : a ^^^ b < 18446744073709551616 := Nat.xor_lt_two_pow (n := 64) ha hb
theorem stepN_lt {x : Nat} (h : x < 18446744073709551616) : stepN x < 18446744073709551616 := by
 unfold stepN
 split
 ·exact xor_lt64 (by omega) (by unfold polyN; omega)
 ·omega
theorem itN_lt {n x : Nat} (h : x < 18446744073709551616) : itN n x < 18446744073709551616 := by
 induction n with
 | zero => exact h
 | succ n ih => exact stepN_lt ih
theorem updN_lt {x c : Nat} (h : x < 18446744073709551616) (hc : c < 256) : updN x c < 18446744073709551616 := itN_lt (xor_lt64 h (by omega))
theorem crcF_lt {l : List Nat} (h : ∀ x ∈ l, x < 256) : crcF l < 18446744073709551616 := by
 have : ∀ (l : List Nat) (a : Nat), (∀ x ∈ l, x < 256) → a < 18446744073709551616 → l.foldl updN a < 18446744073709551616 := by
  intro l
  induction l with
  | nil => intro a _ ha; exact ha
  | cons x l ih => intro a hl ha; exact ih _ (fun y hy => hl y (by simp [hy])) (updN_lt ha (hl x (by simp)))
 exact this l _ h (by decide)
theorem crcF_snoc (l : List Nat) (c : Nat) : crcF (l ++ [c]) = updN (crcF l) c := by
 unfold crcF
 rw [List.foldl_append]
 rfl
theorem crcN_lt {l : List Nat} : crcN l < 18446744073709551616 := by unfold crcN; omega
theorem u64_and1 {x : Nat} (h : x < 18446744073709551616) : bits .and .u64 (x : Int) 1 = ((x % 2 : Nat) : Int) := by
 have := u64_and_nat x 1 h (by decide)
 rw [Nat.and_one_is_mod] at this
 exact this
theorem u64_half {x : Nat} (h : x < 18446744073709551616) : bits .xor .u64 ((x : Int) / 2) 14514072000185962306 = (((x / 2) ^^^ polyN : Nat) : Int) := by
 have h2 := u64_xor_nat (x / 2) polyN (by omega) (by unfold polyN; omega)
 rw [show ((x / 2 : Nat) : Int) = (x : Int) / 2 by omega] at h2
 exact h2
theorem nat_half (x : Nat) : (x : Int) / 2 = ((x / 2 : Nat) : Int) := by omega
set_option maxHeartbeats 1000000 in
theorem step64 (x : Nat) (w : World) (hx : x < 18446744073709551616) : Calls Tryz.prog 241 #[.int .u64 (x : Int)] w fun r w' => r = .returned (.int .u64 (stepN x : Int)) ∧ w = w' := by
 have e1 := u64_and1 hx
 have e3 := u64_half hx
 have HS : Hid (stepN x = if x % 2 = 1 then (x / 2) ^^^ polyN else x / 2) := rfl
 obtain ⟨s, hs⟩ : ∃ s, stepN x = s := ⟨_, rfl⟩
 rw [hs] at HS ⊢
 clear hs
 by_cases h : x % 2 = 1
 ·rw [if_pos h] at HS
  have h1 : ((x : Int) % 2 == 1) = true := by rw [beq_iff_eq]; omega
  clear h
  go_enter Tryz.func241, Tryz.ntmps241
  go_wp2
  go_ret
  exact ⟨by rw [HS.out]; rfl, rfl⟩
 ·rw [if_neg h] at HS
  have h1 : ((x : Int) % 2 == 1) = false := by rw [beq_eq_false_iff_ne]; omega
  clear h
  go_enter Tryz.func241, Tryz.ntmps241
  go_wp2
  go_ret
  exact ⟨by rw [HS.out]; rfl, rfl⟩
set_option maxHeartbeats 1000000 in
theorem steps08 (x n : Nat) (w : World) (hx : x < 18446744073709551616) (hn : n ≤ 1000) : Calls Tryz.prog 336 #[.int .u64 (x : Int), .int .i64 (n : Int)] w fun r w' => r = .returned (.int .u64 (itN n x : Int)) ∧ w = w' := by
 have HI := Lib.hid (fun k => itN_lt (n := k) hx)
 have HS : Hid (∀ k, itN (k + 1) x = if itN k x % 2 = 1 then (itN k x / 2) ^^^ polyN else itN k x / 2) := fun k => rfl
 have H0 : Hid (itN 0 x = x) := rfl
 obtain ⟨f, hf⟩ : ∃ f : Nat → Nat, (fun k => itN k x) = f := ⟨_, rfl⟩
 have hfk : ∀ k, itN k x = f k := fun k => by rw [← hf]
 simp only [hfk] at HI HS H0 ⊢
 clear hf hfk
 go_enter Tryz.func336, Tryz.ntmps336
 go_wp2
 go_loop [0, 5] (fun s0 s5 => ∃ k : Nat, k ≤ n ∧ s5 = .int .i64 k ∧ s0 = .int .u64 (f k : Int)) (fun _ s5 => n - (intOf s5).toNat)
 case atStart => exact ⟨0, by omega, rfl, by rw [H0.out]⟩
 case round =>
  obtain ⟨k, hk, rfl, rfl⟩ := hrel
  by_cases hkn : k < n
  case neg =>
   have hkI : ¬ (k : Int) < (n : Int) := by omega
   obtain rfl : k = n := by omega
   go_wp2
   go_ret
   exact ⟨rfl, rfl⟩
  case pos =>
   have hkI : (k : Int) < (n : Int) := by omega
   have hfl := HI.out k
   have hs := HS.out k
   have e1 := u64_and1 hfl
   have e3 := u64_half hfl
   by_cases h : f k % 2 = 1
   ·rw [if_pos h] at hs
    have h1 : ((f k : Int) % 2 == 1) = true := by rw [beq_iff_eq]; omega
    have HSS := Lib.hid hs
    clear h hs
    go_wp2
    go_round
    case rel => exact ⟨k + 1, by omega, by go_num, by rw [HSS.out]⟩
    case measure => simp [intOf] <;> omega
   ·rw [if_neg h] at hs
    have h1 : ((f k : Int) % 2 == 1) = false := by rw [beq_eq_false_iff_ne]; omega
    have HSS := Lib.hid hs
    clear h hs
    go_wp2
    go_round
    case rel => exact ⟨k + 1, by omega, by go_num, by rw [HSS.out, nat_half]⟩
    case measure => simp [intOf] <;> omega
def u8C (x : Nat) : List Value := [.int .u8 x]
abbrev BytS (w : World) (B : Nat) (A : Option Addr) (l : List Nat) : Prop := RdS w B 1 A (l.map u8C)
theorem BytS.at_ {w : World} {B : Nat} {A : Option Addr} {l : List Nat} (h : BytS w B A l) {k x : Nat} (hx : l[k]? = some x) : ∃ b off, A = some ⟨b, off, none⟩ ∧ b < B ∧ w.cell? ⟨b, off + k, none⟩ = some (.int .u8 (x : Int)) := by
 have hk := (List.getElem?_eq_some_iff.1 hx).1
 obtain ⟨b, off, rfl, hb, hc⟩ := h.2 (by simp; omega)
 have hr : (l.map u8C)[k]? = some (u8C x) := by rw [List.getElem?_map, hx]; rfl
 exact ⟨b, off, rfl, hb, by simpa using hc k _ hr 0 _ rfl⟩
theorem conv_u8u64 (x : Int) (h0 : 0 ≤ x) (h1 : x < 256) (W : World) : (convert 5 38 (.int .u8 x)).run Tryz.prog W = .ok (.int .u64 x) W := by
 rw [run_convert_int W 5 38 .u8 x (by rw [Tryz.underlying5]; rfl) (by kernel_rfl)]
 have hk : Tryz.prog.intKind 38 = .u64 := by kernel_rfl
 rw [hk]
 have : IntKind.u64.wrap x = x := by simp [IntKind.wrap, IntKind.bits, IntKind.signed]; omega
 rw [this]
theorem crcF_take {l : List Nat} {k c : Nat} (h : l[k]? = some c) : crcF (l.take (k + 1)) = updN (crcF (l.take k)) c := by
 rw [List.take_add_one, h]
 exact crcF_snoc _ _
theorem not64 {x : Nat} (h : x < 18446744073709551616) : bits .xor .u64 18446744073709551615 (x : Int) = ((18446744073709551615 - x : Nat) : Int) := by
 have h2 := u64_xor_nat 18446744073709551615 x (by decide) h
 have e : 18446744073709551615 ^^^ x = 18446744073709551615 - x := by
  have h3 := BitVec.allOnes_xor (x := BitVec.ofNat 64 x)
  have h4 := congrArg BitVec.toNat h3
  rw [BitVec.toNat_xor, BitVec.toNat_allOnes, BitVec.toNat_not, BitVec.toNat_ofNat, Nat.mod_eq_of_lt h] at h4
  exact h4
 rw [e] at h2
 exact h2
theorem last_step {l : List Nat} {k : Nat} (h : l.length ≤ k) : crcF (l.take k) = crcF l := by rw [List.take_of_length_le h]
theorem xor0 : bits .xor .u64 18446744073709551615 0 = 18446744073709551615 := not64 (x := 0) (by decide)
set_option maxHeartbeats 1000000 in
theorem upd08 {A : Option Addr} {B c : Nat} {l : List Nat} (w : World) (h : BytS w B A l) (hl : ∀ x ∈ l, x < 256) (hlen : l.length ≤ 1000000000) : Calls Tryz.prog 242 #[.int .u64 0, .slice A l.length c] w fun r w' => r = .returned (.int .u64 (crcN l : Int)) ∧ w = w' := by
 have H := Lib.hid h
 have HL := Lib.hid hl
 obtain ⟨f, hf⟩ : ∃ f : Nat → Nat, (fun k => crcF (l.take k)) = f := ⟨_, rfl⟩
 have hfk : ∀ k, crcF (l.take k) = f k := fun k => by rw [← hf]
 have HCR : Hid (∀ k, f k < 18446744073709551616) := fun k => by rw [← hfk]; exact crcF_lt fun x hx => hl x (List.mem_of_mem_take hx)
 have HF : Hid (∀ k x, l[k]? = some x → itN 8 (f k ^^^ x) = f (k + 1)) := fun k x hx => by rw [← hfk (k + 1), crcF_take hx, ← hfk k]; rfl
 have HZ : Hid (f 0 = 18446744073709551615) := by show f 0 = _; rw [← hfk]; rfl
 have HN : Hid (∀ k, l.length ≤ k → 18446744073709551615 - f k = crcN l) := fun k hk => by rw [← hfk, last_step hk]; rfl
 have HST := Lib.hid (fun (x : Nat) (W : World) (hx : x < 18446744073709551616) => steps08 x 8 W hx (by decide))
 have hsg : ¬ IntKind.u64.signed = true := by decide
 have hmx : IntKind.u64.max = 18446744073709551615 := by decide
 have h0 := xor0
 obtain ⟨cr, hcr⟩ : ∃ cr, crcN l = cr := ⟨_, rfl⟩
 rw [hcr] at HN ⊢
 clear h hl hf hfk hcr
 go_enter Tryz.func242, Tryz.ntmps242
 go_wp2
 go_loop [5, 6] (fun s5 s6 => ∃ k : Nat, k ≤ l.length ∧ s6 = .int .i64 k ∧ s5 = .int .u64 (f k : Int)) (fun _ s6 => l.length - (intOf s6).toNat)
 case atStart => exact ⟨0, by omega, rfl, by rw [HZ.out]; rfl⟩
 case round =>
  obtain ⟨k, hk, rfl, rfl⟩ := hrel
  by_cases hkn : k < l.length
  case neg =>
   have hkI : ¬ (k : Int) < (l.length : Int) := by omega
   obtain rfl : k = l.length := by omega
   have hn := not64 (HCR.out l.length)
   have HNN := Lib.hid (HN.out _ (Nat.le_refl _))
   clear hkn
   go_wp2
   go_ret
   exact ⟨by rw [← HNN.out]; rfl, rfl⟩
  case pos =>
   have hkI : (k : Int) < (l.length : Int) := by omega
   obtain ⟨x, hx⟩ : ∃ x, l[k]? = some x := ⟨_, List.getElem?_eq_getElem hkn⟩
   have hx256 := HL.out x (List.mem_of_getElem? hx)
   obtain ⟨bb, off, rfl, -, hcell⟩ := H.out.at_ hx
   have hcv := conv_u8u64 (x : Int) (by omega) (by omega) w
   have hfl := HCR.out k
   have hxo := u64_xor_nat (f k) x hfl (by omega)
   have HH := Lib.hid (xor_lt64 hfl (show x < 18446744073709551616 by omega))
   have HFF := Lib.hid (HF.out k x hx)
   have hk0 : ¬ (k : Int) < 0 := by omega
   clear hfl hx256 hkn hx
   go_wp2_with fail
   refine (HST.out _ w HH.out).mono ?_
   rintro r w1 ⟨rfl, rfl⟩
   go_wp2
   go_round
   case rel => exact ⟨k + 1, by omega, by go_num, by rw [HFF.out]⟩
   case measure => simp [intOf] <;> omega
theorem sum08 {A : Option Addr} {B c : Nat} {l : List Nat} (w : World) (h : BytS w B A l) (hl : ∀ x ∈ l, x < 256) (hlen : l.length ≤ 1000000000) : Calls Tryz.prog 166 #[.slice A l.length c] w fun r w' => r = .returned (.int .u64 (crcN l : Int)) ∧ w = w' := by
 have HU := Lib.hid (upd08 (c := c) w h hl hlen)
 obtain ⟨cr, hcr⟩ : ∃ cr, crcN l = cr := ⟨_, rfl⟩
 rw [hcr] at HU ⊢
 clear h hl hcr
 go_enter Tryz.func166, Tryz.ntmps166
 go_wp2_with fail
 refine HU.out.mono ?_
 rintro r w1 ⟨rfl, rfl⟩
 go_wp2
 go_ret
 exact ⟨rfl, rfl⟩
set_option maxHeartbeats 1000000 in
theorem upd64 {A : Option Addr} {B c : Nat} {l : List Nat} (w : World) (h : BytS w B A l) (hl : ∀ x ∈ l, x < 256) (hlen : l.length ≤ 1000000000) : Calls Tryz.prog 164 #[.int .u64 0, .slice A l.length c] w fun r w' => r = .returned (.int .u64 (crcN l : Int)) ∧ w = w' := by
 have H := Lib.hid h
 have HL := Lib.hid hl
 obtain ⟨f, hf⟩ : ∃ f : Nat → Nat, (fun k => crcF (l.take k)) = f := ⟨_, rfl⟩
 have hfk : ∀ k, crcF (l.take k) = f k := fun k => by rw [← hf]
 have HCR : Hid (∀ k, f k < 18446744073709551616) := fun k => by rw [← hfk]; exact crcF_lt fun x hx => hl x (List.mem_of_mem_take hx)
 have HF : Hid (∀ k x, l[k]? = some x → itN 8 (f k ^^^ x) = f (k + 1)) := fun k x hx => by rw [← hfk (k + 1), crcF_take hx, ← hfk k]; rfl
 have HZ : Hid (f 0 = 18446744073709551615) := by show f 0 = _; rw [← hfk]; rfl
 have HN : Hid (∀ k, l.length ≤ k → 18446744073709551615 - f k = crcN l) := fun k hk => by rw [← hfk, last_step hk]; rfl
 have HST := Lib.hid step64
 have hsg : ¬ IntKind.u64.signed = true := by decide
 have hmx : IntKind.u64.max = 18446744073709551615 := by decide
 have h0 := xor0
 obtain ⟨cr, hcr⟩ : ∃ cr, crcN l = cr := ⟨_, rfl⟩
 rw [hcr] at HN ⊢
 clear h hl hf hfk hcr
 go_enter Tryz.func164, Tryz.ntmps164
 go_wp2
 go_loop [5, 12] (fun s5 s12 => ∃ k : Nat, k ≤ l.length ∧ s12 = .int .i64 k ∧ s5 = .int .u64 (f k : Int)) (fun _ s12 => l.length - (intOf s12).toNat)
 case atStart => exact ⟨0, by omega, rfl, by rw [HZ.out]; rfl⟩
 case round =>
  obtain ⟨k, hk, rfl, rfl⟩ := hrel
  by_cases hkn : k < l.length
  case neg =>
   have hkI : ¬ (k : Int) < (l.length : Int) := by omega
   obtain rfl : k = l.length := by omega
   have hn := not64 (HCR.out l.length)
   have HNN := Lib.hid (HN.out _ (Nat.le_refl _))
   clear hkn
   go_wp2
   go_ret
   exact ⟨by rw [← HNN.out]; rfl, rfl⟩
  case pos =>
   have hkI : (k : Int) < (l.length : Int) := by omega
   obtain ⟨x, hx⟩ : ∃ x, l[k]? = some x := ⟨_, List.getElem?_eq_getElem hkn⟩
   have hx256 := HL.out x (List.mem_of_getElem? hx)
   obtain ⟨bb, off, rfl, -, hcell⟩ := H.out.at_ hx
   have hcv := conv_u8u64 (x : Int) (by omega) (by omega) w
   have hfl := HCR.out k
   have hxo := u64_xor_nat (f k) x hfl (by omega)
   have hxl := xor_lt64 hfl (show x < 18446744073709551616 by omega)
   have HFF := Lib.hid (HF.out k x hx)
   have hk0 : ¬ (k : Int) < 0 := by omega
   obtain ⟨y, hy⟩ : ∃ y, f k ^^^ x = y := ⟨_, rfl⟩
   rw [hy] at hxo hxl HFF
   have HI := Lib.hid (fun n => itN_lt (n := n) hxl)
   have HS : Hid (∀ n, stepN (itN n y) = itN (n + 1) y) := fun n => rfl
   have H0 : Hid (itN 0 y = y) := rfl
   obtain ⟨g, hg⟩ : ∃ g : Nat → Nat, (fun n => itN n y) = g := ⟨_, rfl⟩
   have hgk : ∀ n, itN n y = g n := fun n => by rw [← hg]
   simp only [hgk] at HI HS H0 HFF
   clear hg hgk hfl hx256 hkn hx hy hxl
   go_wp2
   go_loop [5, 20] (fun s5 s20 => ∃ n : Nat, n ≤ 8 ∧ s20 = .int .i64 n ∧ s5 = .int .u64 (g n : Int)) (fun _ s20 => 8 - (intOf s20).toNat)
   case atStart => exact ⟨0, by omega, rfl, by rw [H0.out]⟩
   case round =>
    obtain ⟨n, hn8, rfl, rfl⟩ := hrel
    by_cases hn : n < 8
    case neg =>
     have hnI : ¬ (n : Int) < 8 := by omega
     obtain rfl : n = 8 := by omega
     go_wp2
     go_round
     case rel => exact ⟨k + 1, by omega, by go_num, by rw [HFF.out]⟩
     case measure => simp [intOf] <;> omega
    case pos =>
     have hnI : (n : Int) < 8 := by omega
     go_wp2_with fail
     refine (HST.out _ _ (HI.out n)).mono ?_
     rintro r w1 ⟨rfl, rfl⟩
     go_wp2
     go_round
     case rel => exact ⟨n + 1, by omega, by go_num, by rw [HS.out]⟩
     case measure => simp [intOf] <;> omega
theorem sum64 {A : Option Addr} {B c : Nat} {l : List Nat} (w : World) (h : BytS w B A l) (hl : ∀ x ∈ l, x < 256) (hlen : l.length ≤ 1000000000) : Calls Tryz.prog 80 #[.slice A l.length c] w fun r w' => r = .returned (.int .u64 (crcN l : Int)) ∧ w = w' := by
 have HU := Lib.hid (upd64 (c := c) w h hl hlen)
 obtain ⟨cr, hcr⟩ : ∃ cr, crcN l = cr := ⟨_, rfl⟩
 rw [hcr] at HU ⊢
 clear h hl hcr
 go_enter Tryz.func80, Tryz.ntmps80
 go_wp2_with fail
 refine HU.out.mono ?_
 rintro r w1 ⟨rfl, rfl⟩
 go_wp2
 go_ret
 exact ⟨rfl, rfl⟩
end Go.Proofs.YtopoefcklipaeaaGreatDoor
namespace Go.Proofs.YtopoefcklipaeaaGreatDoor
open Go.RowKit
variable {P : Program} {w w' : World} {base size bytes : Nat} {t e : TypeId} {v : Value} {rows : List (List Value)}
theorem oper_apS {o : Oper} {a : Act} {K : Act → World → Prop} {Q : Exit → Act → World → Prop} (s x : Operand) (t : TypeId)
  (ho : o.op = .call { callee := .builtin .append, args := #[s, x], argTypes := #[t, t] }) (E : Elem P t e size bytes)
  (hs : a.eval s = v) (hown : OwS w base e size v rows) (B : Nat) (A : Option Addr) (m c : Nat) (news : List (List Value)) (hx : a.eval x = .slice A m c) (hr : RdS w B size A news) (hm : m = news.length)
  (h1 : ∀ r ∈ news, ∀ u ∈ r, u.oneCell' = true) (h63 : rows.length + news.length ≤ maxLen) (hbytes : (rows.length + news.length) * bytes ≤ 140737488355328) (hbase : base ≤ w.heap.size)
  (h : ∀ v' w', OwS w' base e size v' (rows ++ news) → w.grownBy w' v.ownBlock → (v'.ownBlock = v.ownBlock ∨ v'.ownBlock = some w.heap.size) → K (a.put o.dst v') w') : Oper.wp P o a w K Q := by
 obtain ⟨ht, hsz, i, z, hi, hz, hsize, hby, hzs⟩ := E
 have hone : ∀ u ∈ news.flatten, u.oneCell' = true := by
  intro u hu
  obtain ⟨r, hr, hu⟩ := List.mem_flatten.1 hu
  exact h1 r hr u hu
 have hfl : news.flatten.length = news.length * size := flatten_length hr.1
 have hall : ∀ r ∈ rows ++ news, r.length = size := by
  intro r hrr
  rcases List.mem_append.1 hrr with hrr | hrr
  ·exact hown.1 r hrr
  ·exact hr.1 r hrr
 by_cases h0 : news.length = 0
 ·have hn : news = [] := List.eq_nil_of_length_eq_zero h0
  subst hn
  simp only [List.length_nil] at hm
  subst hm
  have hrun : (Builtin.append_ #[t, t] o.type #[v, .slice A 0 c]).run P w = .ok v w := by
   rcases A with _ | ad
   ·rcases hown.2.2 with ⟨rfl, _⟩ | ⟨g, cap, cur, rfl, _, _, hnc, _⟩
    ·simp [Builtin.append_, run_underlying ht, sizeOf, typeInfo, hi, Builtin.lenOf, Builtin.firstCells]
    ·simp [Builtin.append_, run_underlying ht, sizeOf, typeInfo, hi, Builtin.lenOf, Builtin.firstCells, hnc, storeCells]
   ·rcases hown.2.2 with ⟨rfl, hz0⟩ | ⟨g, cap, cur, rfl, _, _, hnc, _⟩
    ·simp [Builtin.append_, run_underlying ht, sizeOf, typeInfo, hi, Builtin.lenOf, Builtin.firstCells, loadCells, loadCellsFrom]
    ·simp [Builtin.append_, run_underlying ht, sizeOf, typeInfo, hi, Builtin.lenOf, Builtin.firstCells, hnc, storeCells, loadCells, loadCellsFrom]
  unfold Oper.wp execOp
  simp only [ho, resolve, invoke, builtin, Sem.run_bind, Sem.run_pure, Result.andThen_ok, List.map_toArray, List.map_cons, List.map_nil, hs, hx, hrun]
  exact h v w (by simpa using hown) (World.grownBy.refl w _) (.inl rfl)
 ·obtain ⟨b, off, rfl, hbB, hc⟩ := hr.2 (by omega)
  have hcells : ∀ j u, news.flatten[j]? = some u → w.cell? ((⟨b, off, none⟩ : Addr).add j) = some u := by
   intro j u hu
   have hj : j < news.length * size := by rw [← hfl]; exact (List.getElem?_eq_some_iff.1 hu).1
   have hq : j / size < news.length := Nat.div_lt_of_lt_mul (by rw [Nat.mul_comm]; exact hj)
   have hmod : j % size < size := Nat.mod_lt _ hsz
   have hrr := List.getElem?_eq_getElem hq
   have hl : (news[j / size]).length = size := hr.1 _ (List.getElem_mem hq)
   have hvv : (news[j / size])[j % size]? = some ((news[j / size])[j % size]'(by omega)) := List.getElem?_eq_getElem (by omega)
   have h2 := hc _ _ hrr _ _ hvv
   have h3 := flatten_get hr.1 _ _ hrr _ _ hvv
   have hdm : j / size * size + j % size = j := by rw [Nat.mul_comm]; exact Nat.div_add_mod j size
   rw [hdm] at h3
   rw [h3] at hu
   cases hu
   rw [Nat.add_assoc, hdm] at h2
   rw [show (⟨b, off, none⟩ : Addr).add j = ⟨b, off + j, none⟩ from Addr.add_lit _ _ _]
   exact h2
  obtain ⟨v', w', hrun, h2, h3, _, h5⟩ := run_append_own_at (P := P) w base t o.type e i z size bytes ht hi hz hsize hby hzs hsz v rows.length rows.flatten hown.2 ⟨b, off, none⟩ news.length c news.flatten hfl hcells hone h63 hbytes hbase
  unfold Oper.wp execOp
  rw [hm] at hx
  simp only [ho, resolve, invoke, builtin, Sem.run_bind, Sem.run_pure, Result.andThen_ok, List.map_toArray, List.map_cons, List.map_nil, hs, hx, hrun]
  exact h v' w' ⟨hall, by simpa using h2⟩ h3 h5
theorem step_apS {ops : Array Oper} {o : Oper} {a : Act} {K : Act → World → Prop} {Q : Exit → Act → World → Prop} {E' : Prop} (hgd : o.guard = none) (s x : Operand) (t : TypeId)
  (ho : o.op = .call { callee := .builtin .append, args := #[s, x], argTypes := #[t, t] }) (E : Elem P t e size bytes)
  (hs : a.eval s = v) (hown : OwS w base e size v rows) (B : Nat) (A : Option Addr) (m c : Nat) (news : List (List Value)) (hx : a.eval x = .slice A m c) (hr : RdS w B size A news) (hm : m = news.length)
  (h1 : ∀ r ∈ news, ∀ u ∈ r, u.oneCell' = true) (h63 : rows.length + news.length ≤ maxLen) (hbytes : (rows.length + news.length) * bytes ≤ 140737488355328) (hbase : base ≤ w.heap.size)
  (h : ∀ v' w', OwS w' base e size v' (rows ++ news) → w.grownBy w' v.ownBlock → (v'.ownBlock = v.ownBlock ∨ v'.ownBlock = some w.heap.size) → K (a.put o.dst v') w') :
  if Region.wanted o (yielded ops a.tmps) = true then Oper.wp P o a w K Q else E' := by
 have hw : Region.wanted o (yielded ops a.tmps) = true := by simp [Region.wanted, hgd]
 rw [if_pos hw]
 exact oper_apS s x t ho E hs hown B A m c news hx hr hm h1 h63 hbytes hbase h
theorem step_ap1 {ops : Array Oper} {o : Oper} {a : Act} {K : Act → World → Prop} {Q : Exit → Act → World → Prop} {E' : Prop} (hgd : o.guard = none) (s x : Operand) (t : TypeId)
  (ho : o.op = .call { callee := .builtin .append, args := #[s, x], argTypes := #[t, t] }) (E : Elem P t e size bytes)
  (hs : a.eval s = v) (hown : OwS w base e size v rows) (cs : List Value) (e' : TypeId) (hcs : cs.length = size) (g : Nat) (hx : a.eval x = .slice (some ⟨g, 0, none⟩) 1 1) (hg : g = w.heap.size)
  (h1 : ∀ u ∈ cs, u.oneCell' = true) (h63 : rows.length + 1 ≤ maxLen) (hbytes : (rows.length + 1) * bytes ≤ 140737488355328) (hbase : base ≤ w.heap.size)
  (h : ∀ v' w', OwS w' base e size v' (rows ++ [cs]) → (w.alloc (.cells cs.toArray e')).grownBy w' v.ownBlock → (v'.ownBlock = v.ownBlock ∨ v'.ownBlock = some (w.heap.size + 1)) → K (a.put o.dst v') w') :
  if Region.wanted o (yielded ops a.tmps) = true then Oper.wp P o a (w.alloc (.cells cs.toArray e')) K Q else E' := by
 have hw : Region.wanted o (yielded ops a.tmps) = true := by simp [Region.wanted, hgd]
 rw [if_pos hw]
 subst hg
 refine oper_apS s x t ho E hs (hown.alloc _) (w.heap.size + 1) _ 1 1 [cs] hx ⟨by simp [hcs], fun _ => ⟨w.heap.size, 0, rfl, by omega, ?_⟩⟩ rfl (by simpa using h1) (by simpa using h63) (by simpa using hbytes) (by simp; omega) ?_
 ·intro i r hi j u hj
  match i, hi with
  | 0, hi =>
   simp at hi
   subst hi
   rw [cell_of_row _ w.heap.size _ cs.toArray e' (0, 0) (heap_alloc_new w _)]
   simpa using hj
 ·intro v' w' h2 h3 h4
  exact h v' w' h2 h3 (by simpa using h4)
end Go.Proofs.YtopoefcklipaeaaGreatDoor
namespace Go.Proofs.YtopoefcklipaeaaGreatDoor
open Go.RowKit
theorem elemIntS : Elem Tryz.prog 47 3 1 8 := Elem.mk (z := .int .i64 0) Tryz.underlying47 (by kernel_rfl) (by decide) rfl
theorem icellOneS (x : Int) : ∀ u ∈ icell x, u.oneCell' = true := by
 intro u hu
 simp [icell] at hu
 subst hu
 rfl
end Go.Proofs.YtopoefcklipaeaaGreatDoor
namespace Go.Proofs.YtopoefcklipaeaaGreatDoor
open Go.RowKit
def triC (t : Nat × Nat × Nat) : List Value := [.int .i64 t.1, .int .i64 t.2.1, .int .i64 t.2.2]
end Go.Proofs.YtopoefcklipaeaaGreatDoor
namespace Go.Proofs.YtopoefcklipaeaaGreatDoor
open Go.RowKit
theorem elemIL : Elem Tryz.prog 24 47 1 24 := Elem.mk (z := .slice none 0 0) Tryz.underlying24 (by kernel_rfl) (by decide) rfl
def rowsI (l : List Nat) : List (List Value) := (nInts l).map icell
def vsRows (vs : List (Option Addr × Nat)) (gs : List (List Nat)) : List (List Value) := (vs.zip gs).map fun p => [.slice p.1.1 p.2.length p.1.2]
def GsW (w : World) (B : Nat) (v : Value) (vs : List (Option Addr × Nat)) (gs : List (List Nat)) : Prop := vs.length = gs.length ∧ OwS w B 47 1 v (vsRows vs gs) ∧
 ∀ (i : Nat) (p : Option Addr × Nat) (g : List Nat), vs[i]? = some p → gs[i]? = some g → OwS w B 3 1 (.slice p.1 g.length p.2) (rowsI g)
def GsO (w : World) (B : Nat) (v : Value) (gs : List (List Nat)) : Prop := ∃ vs, GsW w B v vs gs
section
variable {w w' w1 : World} {B : Nat} {v v1 : Value} {vs : List (Option Addr × Nat)} {gs : List (List Nat)}
theorem GsW.nil (w : World) (B : Nat) : GsW w B (.slice none 0 0) [] [] := ⟨rfl, OwS.nil _ _ _ _, fun i p g h => by simp at h⟩
theorem GsW.below (h : GsW w B v vs gs) (hb : Below w.heap.size w w') : GsW w' B v vs gs := ⟨h.1, h.2.1.below hb, fun i p g h1 h2 => (h.2.2 i p g h1 h2).below hb⟩
theorem GsW.mono {C : Nat} (h : GsW w C v vs gs) (hB : B ≤ C) : GsW w B v vs gs := ⟨h.1, h.2.1.mono hB, fun i p g h1 h2 => (h.2.2 i p g h1 h2).mono hB⟩
theorem GsW.alloc (h : GsW w B v vs gs) (o : Obj) : GsW (w.alloc o) B v vs gs := ⟨h.1, h.2.1.alloc o, fun i p g h1 h2 => (h.2.2 i p g h1 h2).alloc o⟩
theorem GsW.far (h : GsW w B v vs gs) {p : Addr} {t : TypeId} {cs : Array Value} {fr : Nat × Nat} (hp : w.heap[p.block]? = some (.cells cs t fr)) (h1 : t ≠ 47) (h2 : t ≠ 3) (u : Value) : GsW (w.setCell p u) B v vs gs :=
 ⟨h.1, h.2.1.far (h.2.1.blk_ne hp (fun e => h1 e.symm)) u, fun i q g a b => (h.2.2 i q g a b).far ((h.2.2 i q g a b).blk_ne hp (fun e => h2 e.symm)) u⟩
theorem vsRows_push {p : Option Addr × Nat} {g : List Nat} (hl : vs.length = gs.length) : vsRows (vs ++ [p]) (gs ++ [g]) = vsRows vs gs ++ [[.slice p.1 g.length p.2]] := by
 unfold vsRows
 rw [List.zip_append hl, List.map_append]
 rfl
theorem vsRows_len (hl : vs.length = gs.length) : (vsRows vs gs).length = gs.length := by
 unfold vsRows
 simp [hl]
theorem GsW.push (h : GsW w B v vs gs) {p : Option Addr × Nat} {g : List Nat} (hg : OwS w B 3 1 (.slice p.1 g.length p.2) (rowsI g)) (ho : OwS w1 B 47 1 v1 (vsRows vs gs ++ [[.slice p.1 g.length p.2]]))
  (hk : w.grownBy w1 v.ownBlock) : GsW w1 B v1 (vs ++ [p]) (gs ++ [g]) := by
 have hkeep : ∀ {q : Option Addr × Nat} {x : List Nat}, OwS w B 3 1 (.slice q.1 x.length q.2) (rowsI x) → OwS w1 B 3 1 (.slice q.1 x.length q.2) (rowsI x) := fun hx => hx.kept hk (hx.ne h.2.1 (by decide))
 refine ⟨by simp [h.1], by rw [vsRows_push h.1]; exact ho, fun i q x hq hx => ?_⟩
 rcases Nat.lt_trichotomy i vs.length with hi | hi | hi
 ·rw [List.getElem?_append_left hi] at hq
  rw [List.getElem?_append_left (by rw [← h.1]; exact hi)] at hx
  exact hkeep (h.2.2 i q x hq hx)
 ·subst hi
  rw [h.1] at hx
  simp at hq hx
  subst hq hx
  exact hkeep hg
 ·have := (List.getElem?_eq_some_iff.1 hq).1
  simp at this
  omega
theorem GsO.reads {A : Option Addr} {n c : Nat} (h : GsO w B (.slice A n c) gs) : n = gs.length ∧ GsV w w.heap.size A gs := by
 obtain ⟨vs, h1, h2, h3⟩ := h
 refine ⟨?_, vs, h1, h2.reads, fun i p g hp hg => (h3 i p g hp hg).reads⟩
 obtain ⟨A', c', he, -⟩ := h2.form
 rw [vsRows_len h1] at he
 injection he
structure DesS (w : World) (B D d : Nat) (v : Value) (vs : List (Option Addr × Nat)) (gs : List (List Nat)) : Prop where
 box : w.heap[D]? = some (.cells #[.int .i64 d, v] 26)
 base : B ≤ D
 gs : GsW w B v vs gs
theorem DesS.lt {D d : Nat} (h : DesS w B D d v vs gs) : D < w.heap.size := (Array.getElem?_eq_some_iff.1 h.box).1
theorem DesS.below {D d : Nat} (h : DesS w B D d v vs gs) (hb : Below w.heap.size w w') : DesS w' B D d v vs gs := ⟨(hb.block _ h.lt).trans h.box, h.base, h.gs.below hb⟩
theorem DesS.push {D d : Nat} (h : DesS w B D d v vs gs) {p : Option Addr × Nat} {g : List Nat} (hg : OwS w B 3 1 (.slice p.1 g.length p.2) (rowsI g)) (ho : OwS w1 B 47 1 v1 (vsRows vs gs ++ [[.slice p.1 g.length p.2]]))
  (hk : w.grownBy w1 v.ownBlock) : DesS (w1.setCell ⟨D, 1, none⟩ v1) B D d v1 (vs ++ [p]) (gs ++ [g]) := by
 have hb : w1.heap[D]? = some (.cells #[.int .i64 d, v] 26) := (hk.block _ h.lt (fun e => h.gs.2.1.blk_ne h.box (by decide) e.symm)).trans h.box
 refine ⟨?_, h.base, (h.gs.push hg ho hk).far hb (by decide) (by decide) v1⟩
 have := heap_setCell_same w1 D 1 _ _ v1 hb
 simpa using this
end
end Go.Proofs.YtopoefcklipaeaaGreatDoor
namespace Go.Proofs.YtopoefcklipaeaaGreatDoor
open Go.RowKit
theorem rowsI_snoc (l : List Nat) (x : Nat) : rowsI (l ++ [x]) = rowsI l ++ [icell (x : Int)] := by simp [rowsI, nInts]
@[simp] theorem rowsI_len (l : List Nat) : (rowsI l).length = l.length := by simp [rowsI]
structure ProS (w0 w : World) (g c D i : Nat) : Prop where
 pts : OwS w w0.heap.size 413 3 (.slice (some ⟨g, 0, none⟩) 13 c) (coord3.map triC)
 des : ∃ v vs, DesS w w0.heap.size D 13 v vs (proj3.take i)
 bel : Below w0.heap.size w0 w
theorem ProS.below {w0 w w' : World} {g c D i : Nat} (h : ProS w0 w g c D i) (hb : Below w.heap.size w w') : ProS w0 w' g c D i := by
 obtain ⟨h1, ⟨v, vs, h2⟩, h3⟩ := h
 exact ⟨h1.below hb, ⟨v, vs, h2.below hb⟩, h3.trans (hb.mono h3.size)⟩
end Go.Proofs.YtopoefcklipaeaaGreatDoor
namespace Go.Proofs.YtopoefcklipaeaaGreatDoor
theorem chain_at {d k : Nat} : ∀ {gs : List (List Nat)}, chainC d k gs = true → ∀ {j : Nat} {l : List Nat}, gs[j]? = some l → nextC d k l = gs[j + 1]? := by
 intro gs
 induction gs with
 | nil => intro h; simp [chainC] at h
 | cons x r ih =>
  intro h j l hl
  cases r with
  | nil =>
   cases j with
   | zero => simp at hl; subst hl; simpa [chainC] using h
   | succ j => simp at hl
  | cons y r =>
   simp only [chainC, Bool.and_eq_true, beq_iff_eq] at h
   cases j with
   | zero => simp at hl; subst hl; simpa using h.1
   | succ j => simpa using ih h.2 (j := j) (l := l) (by simpa using hl)
def fillL (l : List Nat) (i q : Nat) : List Nat := l.take i ++ (List.range (q - i)).map (fun j => l[i]?.getD 0 + 1 + j) ++ l.drop q
theorem fillL_len {l : List Nat} {i q : Nat} (hi : i ≤ q) (hq : q ≤ l.length) : (fillL l i q).length = l.length := by
 unfold fillL
 simp
 omega
theorem fillL_at {l : List Nat} {i q j : Nat} (hi : i ≤ q) (hq : q ≤ l.length) (hj : j < l.length) : (fillL l i q)[j]? = some (if j < i then l[j]?.getD 0 else if j < q then l[i]?.getD 0 + 1 + (j - i) else l[j]?.getD 0) := by
 unfold fillL
 have h1 : (l.take i).length = i := by simp; omega
 have h2 : ((List.range (q - i)).map fun j => l[i]?.getD 0 + 1 + j).length = q - i := by simp
 have h3 : l[j]? = some l[j] := List.getElem?_eq_getElem hj
 by_cases a : j < i
 ·rw [if_pos a, List.append_assoc, List.getElem?_append_left (by omega), List.getElem?_take, if_pos a, h3]
  rfl
 ·rw [if_neg a]
  by_cases b : j < q
  ·rw [if_pos b, List.append_assoc, List.getElem?_append_right (by omega), h1, List.getElem?_append_left (by omega), List.getElem?_map, List.getElem?_range (by omega)]
   rfl
  ·rw [if_neg b, List.getElem?_append_right (by simp; omega), List.length_append, h1, h2, List.getElem?_drop, show q + (j - (i + (q - i))) = j by omega, h3]
   rfl
theorem fillL_first {l : List Nat} {i : Nat} (hi : i < l.length) : fillL l i (i + 1) = l.set i (l[i]?.getD 0 + 1) := by
 apply List.ext_getElem?
 intro j
 by_cases hj : j < l.length
 ·rw [fillL_at (by omega) (by omega) hj, List.getElem?_set]
  by_cases a : j < i
  ·rw [if_pos a, if_neg (by omega), List.getElem?_eq_getElem hj]; rfl
  ·rw [if_neg a]
   by_cases b : j = i
   ·subst b; simp [hj]
   ·rw [if_neg (by omega), if_neg (by omega), List.getElem?_eq_getElem hj]; rfl
 ·rw [List.getElem?_eq_none (by rw [fillL_len (by omega) (by omega)]; omega), List.getElem?_eq_none (by simp; omega)]
theorem fillL_next {l : List Nat} {i q : Nat} (hi : i < q) (hq : q < l.length) : fillL l i (q + 1) = (fillL l i q).set q (l[i]?.getD 0 + 1 + (q - i)) := by
 apply List.ext_getElem?
 intro j
 by_cases hj : j < l.length
 ·rw [fillL_at (by omega) (by omega) hj, List.getElem?_set, fillL_at (by omega) (by omega) hj, fillL_len (by omega) (by omega)]
  by_cases a : j < i
  ·rw [if_pos a, if_neg (by omega), if_pos a]
  ·rw [if_neg a, if_neg a]
   by_cases b : j = q
   ·subst b; simp [hq]
   ·rw [if_neg (by omega : ¬ q = j)]
    by_cases c : j < q
    ·rw [if_pos (by omega), if_pos c]
    ·rw [if_neg (by omega), if_neg c]
 ·rw [List.getElem?_eq_none (by rw [fillL_len (by omega) (by omega)]; omega), List.getElem?_eq_none (by rw [List.length_set, fillL_len (by omega) (by omega)]; omega)]
theorem fillL_prev {l : List Nat} {i q : Nat} (hi : i < q) (hq : q < l.length) : (fillL l i q)[q - 1]? = some (l[i]?.getD 0 + (q - i)) := by
 rw [fillL_at (by omega) (by omega) (by omega), if_neg (by omega), if_pos (by omega)]
 congr 1
 omega
theorem fillL_all {d k i : Nat} {l : List Nat} (hl : l.length = k) (hg : growAt d k l k = some i) : nextC d k l = some (fillL l i k) := by
 unfold nextC fillL
 rw [hg, ← hl]
 simp
end Go.Proofs.YtopoefcklipaeaaGreatDoor
