/-
  Plain laws: the nearest double of an exact value. No program in sight.
  Plain laws: a number's odd part and its place, and the word that they make.
  The walks of Ldexp and what it calls.
  The walks of Ldexp: any float and place; a number that fits.
  Ldexp of a whole number that fits: the word of m·2^e.
  Ldexp of a whole number that fits: the walk.
  Ldexp of a whole number that fits: the walk.
-/
import Derived.Test.YtecgjhjglklcnaaDoorNB
/-! ### Plain laws: the nearest double of an exact value. No program in sight. -/
namespace Go.Proofs.YtecgjhjglklcnaaDoor
set_option maxRecDepth 100000
open Go.RowKit Go.Shelf Go.Sort

theorem log2_two_pow_mul (m j : Nat) (hm : m ≠ 0) : (m * 2 ^ j).log2 = m.log2 + j := by
  have h1 : 2 ^ m.log2 ≤ m := Nat.log2_self_le hm
  have h2 : m < 2 ^ (m.log2 + 1) := Nat.lt_log2_self
  have h3 : m * 2 ^ j ≠ 0 := Nat.mul_ne_zero hm (by have := Nat.two_pow_pos j; omega)
  refine Nat.le_antisymm ?_ ?_
  · refine Nat.le_of_lt_succ ((Nat.log2_lt h3).2 ?_)
    rw [show (m.log2 + j).succ = (m.log2 + 1) + j by omega, Nat.pow_add]
    exact Nat.mul_lt_mul_of_pos_right h2 (Nat.two_pow_pos _)
  · exact (Nat.le_log2 h3).2 (by rw [Nat.pow_add]; exact Nat.mul_le_mul_right _ h1)

theorem cut_exact (neg : Bool) (q d : Nat) (hq : q ≠ 0) : Ieee.Toward.even.cut neg (q * 2 ^ d) d = q := by
  unfold Ieee.Toward.cut
  have hl : d ≤ (q * 2 ^ d).log2 := by rw [log2_two_pow_mul q d hq]; omega
  simp only []
  rw [Nat.min_eq_left (by omega), Nat.one_shiftLeft, Nat.mul_div_cancel _ (Nat.two_pow_pos _), Nat.mul_mod_left]
  have := Nat.two_pow_pos d
  have h1 : decide (2 ^ d < 2 * 0) = false := by simp
  have h2 : (2 ^ d == 2 * 0) = false := by simp
  rw [h1, h2]; rfl

theorem log2_eq {m k : Nat} (h1 : 2 ^ k ≤ m) (h2 : m < 2 ^ (k + 1)) : m.log2 = k := by
  have h0 : m ≠ 0 := by have := Nat.two_pow_pos k; omega
  have a := (Nat.le_log2 h0).2 h1
  have b := (Nat.log2_lt h0).2 h2
  omega

/-- A value that the format has is its own nearest. -/
theorem nearest_exact (neg : Bool) (M : Nat) (P : Int) (m : Nat) (e : Int) (h0 : m ≠ 0) (h53 : m < 9007199254740992) (he : -1074 ≤ e) (hn : 4503599627370496 ≤ m ∨ e = -1074)
    (hlo : P ≤ e → M = m * 2 ^ (e - P).toNat) (hhi : e ≤ P → m = M * 2 ^ (P - e).toNat) :
    Ieee.double.nearest neg M P = Ieee.double.word neg (min ((e + 1074).toNat * 4503599627370496 + m) 9218868437227405312) := by
  have h2 : Ieee.double.binade = 4503599627370496 := by decide
  have h3 : Ieee.double.infRung = 9218868437227405312 := by decide
  have h4 : Ieee.double.leastPlace = -1074 := by decide
  have h5 : (Ieee.double.fractionBits : Int) = 52 := by decide
  have hM : M ≠ 0 := by
    rcases Int.le_total P e with h | h
    · rw [hlo h]; exact Nat.mul_ne_zero h0 (by have := Nat.two_pow_pos (e - P).toNat; omega)
    · intro hz; rw [hz, Nat.zero_mul] at hhi; exact h0 (hhi h)
  have hlog : P + (M.log2 : Int) = e + (m.log2 : Int) := by
    rcases Int.le_total P e with h | h
    · rw [hlo h, log2_two_pow_mul _ _ h0]; omega
    · rw [hhi h, log2_two_pow_mul _ _ hM]; omega
  have hL : m.log2 ≤ 52 := by have := (Nat.log2_lt h0 (k := 53)).2 (by omega); omega
  have hlast : max (P + (M.log2 : Int) - 52) (-1074) = e := by
    rw [hlog]
    rcases hn with hn | hn
    · have : m.log2 = 52 := log2_eq (by omega) (by omega)
      omega
    · omega
  unfold Ieee.Format.nearest
  rw [if_neg hM]
  simp only [h2, h3, h4, h5, hlast]
  have hk : Ieee.Toward.even.cut neg (M <<< (P - e).toNat) (e - P).toNat = m := by
    rcases Int.le_total P e with h | h
    · rw [show (P - e).toNat = 0 by omega, Nat.shiftLeft_zero, hlo h]
      exact cut_exact neg m _ h0
    · rw [show (e - P).toNat = 0 by omega, Nat.shiftLeft_eq, ← hhi h]
      have := cut_exact neg m 0 h0
      rwa [Nat.pow_zero, Nat.mul_one] at this
  rw [hk]
  congr 1
end Go.Proofs.YtecgjhjglklcnaaDoor

/-! ### Plain laws: a number's odd part and its place, and the word that they make. -/
namespace Go.Proofs.YtecgjhjglklcnaaDoor
set_option maxRecDepth 100000
open Go.RowKit Go.Shelf Go.Sort

/-- Odd or not, it fits the format. -/
structure InR (m : Nat) (e : Int) : Prop where
  ne : m ≠ 0
  lt : m < 9007199254740992
  lo : -1074 ≤ e
  hi : (m.log2 : Int) + 1 + e ≤ 1024
/-- The bits of m·2^e. -/
def ldN (m : Nat) (e : Int) : Nat := Ieee.double.nearest false m e
/-- How far the digits are moved up. -/
def upK (m : Nat) (e : Int) : Nat := min (52 - m.log2) (e + 1074).toNat
theorem InR.log {m : Nat} {e : Int} (h : InR m e) : m.log2 ≤ 52 := by have := (Nat.log2_lt h.ne (k := 53)).2 (by have := h.lt; omega); omega
theorem InR.up {m : Nat} {e : Int} (h : InR m e) : m * 2 ^ upK m e < 9007199254740992 ∧ (4503599627370496 ≤ m * 2 ^ upK m e ∨ e - upK m e = -1074) ∧ -1074 ≤ e - upK m e ∧ e - upK m e ≤ 971 := by
  have hl := h.log
  have h1 : 2 ^ m.log2 ≤ m := Nat.log2_self_le h.ne
  have h2 : m < 2 ^ (m.log2 + 1) := Nat.lt_log2_self
  have hlo := h.lo
  have hhi := h.hi
  have hk : upK m e ≤ 52 - m.log2 := Nat.min_le_left _ _
  have hk2 : upK m e ≤ (e + 1074).toNat := Nat.min_le_right _ _
  have hk3 : upK m e = 52 - m.log2 ∨ upK m e = (e + 1074).toNat := by unfold upK; omega
  refine ⟨?_, ?_, by omega, by omega⟩
  · calc m * 2 ^ upK m e < 2 ^ (m.log2 + 1) * 2 ^ upK m e := Nat.mul_lt_mul_of_pos_right h2 (Nat.two_pow_pos _)
      _ = 2 ^ (m.log2 + 1 + upK m e) := (Nat.pow_add _ _ _).symm
      _ ≤ 2 ^ 53 := Nat.pow_le_pow_right (by decide) (by omega)
  · rcases hk3 with hk3 | hk3
    · left
      calc 4503599627370496 = 2 ^ (m.log2 + upK m e) := by rw [hk3, show m.log2 + (52 - m.log2) = 52 by omega]
        _ = 2 ^ m.log2 * 2 ^ upK m e := Nat.pow_add _ _ _
        _ ≤ m * 2 ^ upK m e := Nat.mul_le_mul_right _ h1
    · right; omega
theorem InR.up0 {m : Nat} {e : Int} (h : InR m e) : m * 2 ^ upK m e ≠ 0 := Nat.mul_ne_zero h.ne (by have := Nat.two_pow_pos (upK m e); omega)
theorem InR.ld {m : Nat} {e : Int} (h : InR m e) : ldN m e = (e - upK m e + 1074).toNat * 4503599627370496 + m * 2 ^ upK m e ∧ ldN m e < 9218868437227405312 := by
  obtain ⟨h1, h2, h3, h4⟩ := h.up
  have hb : (e - upK m e + 1074).toNat * 4503599627370496 + m * 2 ^ upK m e < 9218868437227405312 := by omega
  have : ldN m e = (e - upK m e + 1074).toNat * 4503599627370496 + m * 2 ^ upK m e := by
    unfold ldN
    rw [nearest_exact false m e (m * 2 ^ upK m e) (e - upK m e) h.up0 h1 h3 h2 (fun hle => ?_) (fun _ => ?_)]
    · rw [Nat.min_eq_left (by omega)]; rfl
    · have : upK m e = 0 := by omega
      rw [this]; simp
    · congr 2; omega
  exact ⟨this, by rw [this]; exact hb⟩
def ldW (m : Nat) (e : Int) : UInt64 := UInt64.ofNat (ldN m e)
theorem InR.ldW_nat {m : Nat} {e : Int} (h : InR m e) : (ldW m e).toNat = ldN m e := by
  have := h.ld.2
  unfold ldW; rw [UInt64.toNat_ofNat', Nat.mod_eq_of_lt (by omega)]
theorem exp0_nat (b : UInt64) : exp0 b = if b.toNat / 4503599627370496 % 2048 = 0 then -1074 else ((b.toNat / 4503599627370496 % 2048 : Nat) : Int) - 1075 := by
  unfold exp0
  have e : expW b = 0 ↔ b.toNat / 4503599627370496 % 2048 = 0 := by
    rw [← expW_nat, ← UInt64.toNat_inj]; exact Iff.rfl
  by_cases h : expW b = 0
  · rw [if_pos h, if_pos (e.1 h)]
  · rw [if_neg h, if_neg (fun h' => h (e.2 h'))]; unfold n64; rw [expW_nat]
theorem InR.mant {m : Nat} {e : Int} (h : InR m e) : (mantW (ldW m e)).toNat = m * 2 ^ upK m e ∧ exp0 (ldW m e) = e - upK m e := by
  obtain ⟨h1, h2, h3, h4⟩ := h.up
  obtain ⟨h5, h6⟩ := h.ld
  have h0 := h.up0
  rw [mantW_nat, exp0_nat, h.ldW_nat, h5]
  generalize m * 2 ^ upK m e = M at *
  generalize e - upK m e = E at *
  by_cases hM : M < 4503599627370496
  · have hE : E = -1074 := by omega
    subst hE
    have e1 : ((-1074 : Int) + 1074).toNat * 4503599627370496 + M = M := by simp
    rw [e1, if_pos (by omega), if_pos (by omega)]
    exact ⟨by omega, rfl⟩
  · rw [if_neg (by omega), if_neg (by omega)]
    constructor <;> omega
theorem odd_unique {a b i j : Nat} (ha : a % 2 = 1) (hb : b % 2 = 1) (h : a * 2 ^ i = b * 2 ^ j) : a = b ∧ i = j := by
  rcases Nat.lt_trichotomy i j with hij | hij | hij
  · exfalso
    obtain ⟨d, rfl⟩ : ∃ d, j = i + (d + 1) := ⟨j - i - 1, by omega⟩
    rw [Nat.pow_add, ← Nat.mul_assoc, Nat.mul_right_comm] at h
    have h3 := Nat.eq_of_mul_eq_mul_right (Nat.two_pow_pos _) h
    rw [Nat.pow_succ, ← Nat.mul_assoc] at h3
    omega
  · subst hij
    exact ⟨Nat.eq_of_mul_eq_mul_right (Nat.two_pow_pos _) h, rfl⟩
  · exfalso
    obtain ⟨d, rfl⟩ : ∃ d, i = j + (d + 1) := ⟨i - j - 1, by omega⟩
    rw [Nat.pow_add, ← Nat.mul_assoc, Nat.mul_right_comm] at h
    have h3 := Nat.eq_of_mul_eq_mul_right (Nat.two_pow_pos _) h
    rw [Nat.pow_succ, ← Nat.mul_assoc] at h3
    omega
theorem InR.mant0 {m : Nat} {e : Int} (h : InR m e) : mantW (ldW m e) ≠ 0 := u64_of_ne0 (by rw [h.mant.1]; exact h.up0)
/-- There and back. -/
theorem InR.parts {m : Nat} {e : Int} (h : InR m e) (ho : m % 2 = 1) : (partM (ldW m e)).toNat = m ∧ partE (ldW m e) = e := by
  obtain ⟨h1, h2⟩ := partM_spec _ h.mant0
  rw [h.mant.1] at h1
  obtain ⟨ha, hb⟩ := odd_unique ho h2 h1
  refine ⟨ha.symm, ?_⟩
  unfold partE; rw [h.mant.2, ← hb]; omega
/-- A number above 0 that is finite. -/
def FinW (b : UInt64) : Prop := b.toNat < 9218868437227405312 ∧ mantW b ≠ 0
theorem mant_bd (b : UInt64) : (mantW b).toNat < 9007199254740992 := by rw [mantW_nat]; split <;> omega
theorem FinW.exp {b : UInt64} (h : FinW b) : exp0 b ≤ 971 := by
  have h1 := h.1
  rw [exp0_nat]
  split
  · decide
  · omega
theorem FinW.inR {b : UInt64} (h : FinW b) : InR (partM b).toNat (partE b) := by
  have hx := h.exp
  obtain ⟨h1, h2⟩ := h
  obtain ⟨h3, h4⟩ := partM_spec b h2
  have h5 := mant_bd b
  have h6 := u64_ne0 h2
  have hp : (partM b).toNat ≤ (mantW b).toNat := by rw [h3]; exact Nat.le_mul_of_pos_right _ (Nat.two_pow_pos _)
  have hl : (mantW b).toNat.log2 = (partM b).toNat.log2 + tzW b := by rw [h3]; exact log2_two_pow_mul _ _ (by omega)
  have hm52 := (Nat.log2_lt h6 (k := 53)).2 (Nat.lt_of_lt_of_eq h5 (by decide))
  refine ⟨by omega, Nat.lt_of_le_of_lt hp h5, (partE_bd b h2).1, ?_⟩
  unfold partE
  rw [hl] at hm52
  clear h3 h5 hp hl h1 h4 h6
  omega
theorem word_pos (r : Nat) : Ieee.double.word false r = r := rfl
theorem back_num (n M : Nat) (E : Int) (h1 : n < 9218868437227405312)
    (he : E = if n / 4503599627370496 % 2048 = 0 then -1074 else ((n / 4503599627370496 % 2048 : Nat) : Int) - 1075)
    (hm : M = if n / 4503599627370496 % 2048 = 0 then n % 4503599627370496 else n % 4503599627370496 + 4503599627370496) :
    (E + 1074).toNat * 4503599627370496 + M = n ∧ -1074 ≤ E ∧ (4503599627370496 ≤ M ∨ E = -1074) := by
  by_cases hq : n / 4503599627370496 % 2048 = 0
  · rw [if_pos hq] at he hm
    subst he hm
    refine ⟨?_, by decide, Or.inr rfl⟩
    have : ((-1074 : Int) + 1074).toNat = 0 := rfl
    rw [this]; omega
  · rw [if_neg hq] at he hm
    have h2 : n / 4503599627370496 % 2048 = n / 4503599627370496 := by omega
    rw [h2] at he hq
    have h3 : (E + 1074).toNat = n / 4503599627370496 - 1 := by omega
    rw [h3]
    refine ⟨by omega, by omega, Or.inl (by omega)⟩
theorem FinW.back {b : UInt64} (h : FinW b) : ldW (partM b).toNat (partE b) = b := by
  obtain ⟨h1, h2⟩ := h
  obtain ⟨h3, h4⟩ := partM_spec b h2
  have h5 := mant_bd b
  have h6 := u64_ne0 h2
  obtain ⟨h7, h8, h9⟩ := back_num _ _ _ h1 (exp0_nat b) (mantW_nat b)
  apply UInt64.toNat_inj.1
  rw [(FinW.inR ⟨h1, h2⟩).ldW_nat]
  unfold ldN
  rw [nearest_exact false _ _ (mantW b).toNat (exp0 b) h6 h5 h8 h9 (fun hle => ?_) (fun hle => ?_)]
  · rw [word_pos, h7]
    exact Nat.min_eq_left (Nat.le_of_lt h1)
  · have ht : tzW b = 0 := by unfold partE at hle; omega
    have : (exp0 b - partE b).toNat = 0 := by unfold partE; omega
    rw [this, h3, ht, Nat.pow_zero, Nat.mul_one, Nat.mul_one]
  · have : (partE b - exp0 b).toNat = tzW b := by unfold partE; omega
    rw [this, h3]
end Go.Proofs.YtecgjhjglklcnaaDoor

/-! ### The walks of Ldexp and what it calls. -/
namespace Go.Proofs.YtecgjhjglklcnaaDoor
set_option maxRecDepth 100000
open Go.RowKit Go.Shelf Go.Sort
attribute [local go_sem] frombits tobits n64_and n64_or n64_xor n64_andNot
attribute [local go_sem high] un64_not
attribute [local go_sem] k_top k_ortop k_antop k_xortop k_2047 k_frac fnan
attribute [local go_sem high] k_shr52
theorem fzero : Value.float .f64 0 = Value.float .f64 (fb 0) := rfl

set_option maxHeartbeats 400000 in
theorem abs_any (x : UInt64) (w : World) : Calls Tryd.prog 116 #[.float .f64 (fb x)] w fun e w' => e = .returned (.float .f64 (fb (x &&& ~~~topW))) ∧ w' = w := by
  go_enter Tryd.func116, Tryd.ntmps116
  go_wp2
  go_ret
  exact ⟨rfl, rfl⟩

set_option maxHeartbeats 400000 in
theorem inf_pos (w : World) : Calls Tryd.prog 79 #[.int .i64 1] w fun e w' => e = .returned (.float .f64 (fb 9218868437227405312)) ∧ w' = w := by
  have h : ∀ W, (callFunc 76 #[.int .u64 9218868437227405312]).run Tryd.prog W = .ok (.value (.float .f64 (fb 9218868437227405312))) W := fun W => frombits0 _ W
  go_enter Tryd.func79, Tryd.ntmps79
  go_wp2
  go_ret
  exact ⟨rfl, rfl⟩
set_option maxHeartbeats 400000 in
theorem inf_neg (w : World) : Calls Tryd.prog 79 #[.int .i64 (-1)] w fun e w' => e = .returned (.float .f64 (fb 18442240474082181120)) ∧ w' = w := by
  have h : ∀ W, (callFunc 76 #[.int .u64 18442240474082181120]).run Tryd.prog W = .ok (.value (.float .f64 (fb 18442240474082181120))) W := fun W => frombits0 _ W
  go_enter Tryd.func79, Tryd.ntmps79
  go_wp2
  go_ret
  exact ⟨rfl, rfl⟩

set_option maxHeartbeats 400000 in
theorem isNaN_any (x : UInt64) (w : World) : Calls Tryd.prog 108 #[.float .f64 (fb x)] w fun e w' => e = .returned (.bool (nanB x)) ∧ w' = w := by
  have hn := neq_self x
  go_enter Tryd.func108, Tryd.ntmps108
  go_wp2
  go_ret
  exact ⟨rfl, rfl⟩

def infB (x : UInt64) : Bool := FloatKind.f64.format.order (fb (x &&& ~~~topW)) 9218868437227405311 == some .gt
set_option maxHeartbeats 400000 in
theorem isInf_any (x : UInt64) (w : World) : Calls Tryd.prog 107 #[.float .f64 (fb x), .int .i64 0] w fun e w' => e = .returned (.bool (infB x)) ∧ w' = w := by
  go_enter Tryd.func107, Tryd.ntmps107
  go_wp2_with (go_at_call 116; refine (abs_any _ _).mono ?_; rintro e w ⟨rfl, rfl⟩)
  go_ret
  exact ⟨rfl, rfl⟩

set_option maxHeartbeats 400000 in
theorem copysign_any (x y : UInt64) (w : World) : Calls Tryd.prog 110 #[.float .f64 (fb x), .float .f64 (fb y)] w fun e w' => e = .returned (.float .f64 (fb ((x &&& ~~~topW) ||| (y &&& topW)))) ∧ w' = w := by
  go_enter Tryd.func110, Tryd.ntmps110
  go_wp2
  go_ret
  exact ⟨rfl, rfl⟩

def subB (x : UInt64) : Bool := FloatKind.f64.format.order (fb (x &&& ~~~topW)) 4503599627370496 == some .lt
set_option maxHeartbeats 400000 in
theorem normalize_big (x : UInt64) (h : subB x = false) (w : World) : Calls Tryd.prog 109 #[.float .f64 (fb x)] w fun e w' => e = .returned (.tuple #[.float .f64 (fb x), .int .i64 0]) ∧ w' = w := by
  unfold subB at h
  go_enter Tryd.func109, Tryd.ntmps109
  go_wp2_with (go_at_call 116; refine (abs_any _ _).mono ?_; rintro e w ⟨rfl, rfl⟩)
  go_ret2
  exact ⟨rfl, rfl⟩
set_option maxHeartbeats 400000 in
theorem normalize_any (x : UInt64) (w : World) : Calls Tryd.prog 109 #[.float .f64 (fb x)] w fun e w' => ∃ (y : UInt64) (k : Int) (nd : Nat), e = .returned (.tuple #[.float .f64 (fb y), .int .i64 k]) ∧ w' = w.drewN nd := by
  cases hs : subB x with
  | false =>
    refine (normalize_big x hs w).mono ?_
    rintro e w' ⟨rfl, rfl⟩
    exact ⟨x, 0, 0, rfl, rfl⟩
  | true =>
    unfold subB at hs
    obtain ⟨q, nd, hrun, hq⟩ := run_fl (P := Tryd.prog) .mul (by simp) 22 x 4841369599423283200 w
    clear hq
    have hrun : (binOp .mul 22 (.float .f64 (fb x)) (.float .f64 4841369599423283200)).run Tryd.prog w = .ok (.float .f64 (fb q)) (w.drewN nd) := hrun
    go_enter Tryd.func109, Tryd.ntmps109
    go_wp2_with (go_at_call 116; refine (abs_any _ _).mono ?_; rintro e w ⟨rfl, rfl⟩)
    go_ret2
    exact ⟨q, -52, nd, rfl, rfl⟩
end Go.Proofs.YtecgjhjglklcnaaDoor

/-! ### The walks of Ldexp: any float and place; a number that fits. -/
namespace Go.Proofs.YtecgjhjglklcnaaDoor
set_option maxRecDepth 100000
open Go.RowKit Go.Shelf Go.Sort
attribute [local go_sem] frombits tobits n64_and n64_or n64_xor n64_andNot
attribute [local go_sem high] un64_not
attribute [local go_sem] k_top k_ortop k_antop k_xortop k_2047 k_frac fnan
attribute [local go_sem high] k_shr52

noncomputable def mulQ (a b : UInt64) (w : World) : UInt64 := Classical.choose (run_fl (P := Tryd.prog) .mul (by simp) 22 a b w)
noncomputable def mulN (a b : UInt64) (w : World) : Nat := Classical.choose (Classical.choose_spec (run_fl (P := Tryd.prog) .mul (by simp) 22 a b w))
theorem run_mulQ (a b : UInt64) (w : World) : (binOp .mul 22 (.float .f64 (fb a)) (.float .f64 (fb b))).run Tryd.prog w = .ok (.float .f64 (fb (mulQ a b w))) (w.drewN (mulN a b w)) :=
  (Classical.choose_spec (Classical.choose_spec (run_fl (P := Tryd.prog) .mul (by simp) 22 a b w))).1
theorem run_mul1 (b : UInt64) (w : World) : (binOp .mul 22 (.float .f64 4607182418800017408) (.float .f64 (fb b))).run Tryd.prog w = .ok (.float .f64 (fb (mulQ 4607182418800017408 b w))) (w.drewN (mulN 4607182418800017408 b w)) := run_mulQ 4607182418800017408 b w
theorem run_mul53 (b : UInt64) (w : World) : (binOp .mul 22 (.float .f64 4368491638549381120) (.float .f64 (fb b))).run Tryd.prog w = .ok (.float .f64 (fb (mulQ 4368491638549381120 b w))) (w.drewN (mulN 4368491638549381120 b w)) := run_mulQ 4368491638549381120 b w
theorem k_clr (x : UInt64) : bits .andNot .u64 (n64 x) 9218868437227405312 = n64 (x &&& ~~~9218868437227405312) := n64_andNot x 9218868437227405312
theorem k_shl52 (x : UInt64) (yk : IntKind) : Op.shift .shl .u64 (n64 x) yk 52 = pure (.int .u64 (n64 (x <<< 52))) := sh64_shl x yk 52 (by omega) (by omega)
attribute [local go_sem] k_clr run_mul1 run_mul53
attribute [local go_sem high] k_shl52
theorem copy0 (y : UInt64) (w : World) : Calls Tryd.prog 110 #[.float .f64 0, .float .f64 (fb y)] w fun e w' => e = .returned (.float .f64 (fb ((0 &&& ~~~topW) ||| (y &&& topW)))) ∧ w' = w := copysign_any 0 y w

def orZ (a : UInt64) (z : Int) : UInt64 := UInt64.ofNat ((bits .or .u64 (n64 a) z) % 18446744073709551616).toNat
theorem wrap_wrap (n : Int) : IntKind.u64.wrap (IntKind.u64.wrap n) = IntKind.u64.wrap n := by rw [IntKind.wrap_u64, IntKind.wrap_u64]; omega
theorem k_orZ (a : UInt64) (z : Int) : bits .or .u64 (n64 a) z = n64 (orZ a z) := by
  unfold orZ
  rw [← wr64]
  show bits .or .u64 (n64 a) z = IntKind.u64.wrap (IntKind.u64.wrap _)
  rw [wrap_wrap]; rfl
section
attribute [local go_sem] k_orZ
set_option maxHeartbeats 4000000 in
theorem ldexp_any (x : UInt64) (e : Int) (_he : -1000000 ≤ e ∧ e ≤ 1000000) (w : World) :
    Calls Tryd.prog 101 #[.float .f64 (fb x), .int .i64 e] w fun v w' => ∃ (r : UInt64) (nd : Nat), v = .returned (.float .f64 (fb r)) ∧ w' = w.drewN nd := by
  go_enter Tryd.func101, Tryd.ntmps101
  go_wp2_with (first
    | (go_at_call 107; refine (isInf_any _ _).mono ?_; rintro e w ⟨rfl, rfl⟩)
    | (go_at_call 108; refine (isNaN_any _ _).mono ?_; rintro e w ⟨rfl, rfl⟩)
    | (go_at_call 109; refine (normalize_any _ _).mono ?_; rintro e w ⟨y, k, nd, rfl, rfl⟩)
    | (go_at_call 110; refine (copy0 _ _).mono ?_; rintro e w ⟨rfl, rfl⟩)
    | (go_at_call 79; refine (inf_pos _).mono ?_; rintro e w ⟨rfl, rfl⟩)
    | (go_at_call 79; refine (inf_neg _).mono ?_; rintro e w ⟨rfl, rfl⟩))
  all_goals (try (go_ret; first | exact ⟨_, 0, rfl, rfl⟩ | exact ⟨_, _, rfl, rfl⟩ | exact ⟨_, _, rfl, World.drewN_drewN _ _ _⟩))
end
end Go.Proofs.YtecgjhjglklcnaaDoor

/-! ### Ldexp of a whole number that fits: the word of m·2^e. -/
namespace Go.Proofs.YtecgjhjglklcnaaDoor
set_option maxRecDepth 100000
open Go.RowKit Go.Shelf Go.Sort

/-- A word below infinity, without a sign: its digits and its place. -/
theorem read_pos (n : Nat) (h : n < 9218868437227405312) : ∃ (m : Nat) (e : Int), Ieee.double.read n = .number false m e ∧ (e + 1074).toNat * 4503599627370496 + m = n ∧ -1074 ≤ e ∧ (4503599627370496 ≤ m ∨ e = -1074) ∧ m < 9007199254740992 ∧ e ≤ 971 := by
  rw [read_dbl, Nat.mod_eq_of_lt (show n < 9223372036854775808 by omega)]
  have hs : (n / 9223372036854775808 % 2 == 1) = false := by rw [Nat.div_eq_of_lt (by omega)]; rfl
  rw [hs]
  by_cases h1 : n < 4503599627370496
  · rw [if_pos h1]
    refine ⟨n, -1074, rfl, ?_, by decide, Or.inr rfl, by omega, by decide⟩
    have : ((-1074 : Int) + 1074).toNat = 0 := rfl
    rw [this]; omega
  · rw [if_neg h1, if_pos h]
    refine ⟨_, _, rfl, ?_, by omega, Or.inl (by omega), by omega, by omega⟩
    have : (-1074 + ((n / 4503599627370496 - 1 : Nat) : Int) + 1074).toNat = n / 4503599627370496 - 1 := by omega
    rw [this]; omega
theorem cmp_nat (a b : Nat) : compare ((a : Nat) : Int) ((b : Nat) : Int) = compare a b := by
  rcases Nat.lt_trichotomy a b with h | h | h
  · rw [Nat.compare_eq_lt.2 h, Std.compare_eq_lt]; omega
  · subst h; simp
  · rw [Nat.compare_eq_gt.2 h, Std.compare_eq_gt]; omega
/-- Words without a sign stand as their numbers do. -/
theorem order_pos (a b : Nat) (ha : a < 9218868437227405312) (hb : b < 9218868437227405312) : Ieee.double.order a b = some (compare a b) := by
  obtain ⟨m, e, h1, h2, h3, h4, h5, h6⟩ := read_pos a ha
  obtain ⟨n, f, k1, k2, k3, k4, k5, k6⟩ := read_pos b hb
  unfold Ieee.Format.order
  rw [h1, k1]
  show some (compare ((m <<< (e - min e f).toNat : Nat) : Int) ((n <<< (f - min e f).toNat : Nat) : Int)) = _
  rw [cmp_nat, Nat.shiftLeft_eq, Nat.shiftLeft_eq]
  congr 1
  rcases Int.lt_trichotomy e f with h | h | h
  · have hd : ∃ d, (f - min e f).toNat = d + 1 := ⟨(f - e).toNat - 1, by omega⟩
    obtain ⟨d, hd⟩ := hd
    rw [show (e - min e f).toNat = 0 by omega, hd]
    have hn : 4503599627370496 ≤ n := by omega
    have hx : m * 2 ^ 0 < n * 2 ^ (d + 1) := by
      have h9 : n * 2 ≤ n * 2 ^ (d + 1) := Nat.mul_le_mul_left _ (by rw [Nat.pow_succ]; have := Nat.two_pow_pos d; omega)
      omega
    rw [Nat.compare_eq_lt.2 hx, Nat.compare_eq_lt.2 (by omega)]
  · subst h
    rw [Int.min_self, Int.sub_self]
    simp only [Int.toNat_zero, Nat.pow_zero, Nat.mul_one]
    rcases Nat.lt_trichotomy m n with h | h | h
    · rw [Nat.compare_eq_lt.2 h, Nat.compare_eq_lt.2 (by omega)]
    · subst h; rw [show a = b by omega, Nat.compare_eq_eq.2 rfl, Nat.compare_eq_eq.2 rfl]
    · rw [Nat.compare_eq_gt.2 h, Nat.compare_eq_gt.2 (by omega)]
  · have hd : ∃ d, (e - min e f).toNat = d + 1 := ⟨(e - f).toNat - 1, by omega⟩
    obtain ⟨d, hd⟩ := hd
    rw [show (f - min e f).toNat = 0 by omega, hd]
    have hn : 4503599627370496 ≤ m := by omega
    have hx : n * 2 ^ 0 < m * 2 ^ (d + 1) := by
      have h9 : m * 2 ≤ m * 2 ^ (d + 1) := Nat.mul_le_mul_left _ (by rw [Nat.pow_succ]; have := Nat.two_pow_pos d; omega)
      omega
    rw [Nat.compare_eq_gt.2 hx, Nat.compare_eq_gt.2 (by omega)]

/-! ### The word of a whole number -/
theorem inR0 {m : Nat} (h0 : m ≠ 0) (h : m < 9007199254740992) : InR m 0 := by
  have := (Nat.log2_lt h0 (k := 53)).2 (Nat.lt_of_lt_of_eq h (by decide))
  exact ⟨h0, h, by decide, by omega⟩
def fOf (m : Nat) : UInt64 := ldW m 0
/-- Its parts. -/
theorem fOf_nat {m : Nat} (h0 : m ≠ 0) (h : m < 9007199254740992) :
    ∃ f, f < 4503599627370496 ∧ (fOf m).toNat = (m.log2 + 1023) * 4503599627370496 + f ∧ m * 2 ^ (52 - m.log2) = 4503599627370496 + f ∧ m.log2 ≤ 52 := by
  have hi := inR0 h0 h
  have hl := hi.log
  have hk : upK m 0 = 52 - m.log2 := by unfold upK; omega
  obtain ⟨h1, h2, h3, h4⟩ := hi.up
  have hld := hi.ld.1
  rw [hk] at h1 h2 hld
  have h5 : 4503599627370496 ≤ m * 2 ^ (52 - m.log2) := by omega
  refine ⟨m * 2 ^ (52 - m.log2) - 4503599627370496, by omega, ?_, by omega, hl⟩
  unfold fOf
  rw [hi.ldW_nat, hld]
  have : ((0 : Int) - ((52 - m.log2 : Nat) : Int) + 1074).toNat = m.log2 + 1022 := by omega
  rw [this]
  omega
end Go.Proofs.YtecgjhjglklcnaaDoor

/-! ### Ldexp of a whole number that fits: the walk. -/
namespace Go.Proofs.YtecgjhjglklcnaaDoor
set_option maxRecDepth 100000
open Go.RowKit Go.Shelf Go.Sort

theorem clr_nat (x : UInt64) (h : x.toNat < 9223372036854775808) : (x &&& ~~~9218868437227405312).toNat = x.toNat % 4503599627370496 := by
  rw [UInt64.toNat_and]
  have e2 : (~~~(9218868437227405312 : UInt64)).toNat = 2 ^ 63 ||| (2 ^ 52 - 1) := by decide
  rw [e2, Nat.and_or_distrib_left, Nat.and_comm x.toNat (2 ^ 63), and_top_low 63 _ (by omega), Nat.zero_or, Nat.and_two_pow_sub_one_eq_mod]
theorem put_nat (x : UInt64) (F : Nat) (h : x.toNat < 9223372036854775808) (hF : F < 2048) :
    ((x &&& ~~~(9218868437227405312 : UInt64)) ||| (UInt64.ofNat F <<< (52 : UInt64))).toNat = F * 4503599627370496 + x.toNat % 4503599627370496 := by
  have e : ((52 : UInt64).toNat % 64) = 52 := rfl
  rw [UInt64.toNat_or, clr_nat x h, UInt64.toNat_shiftLeft, UInt64.toNat_ofNat', e, Nat.mod_eq_of_lt (show F < 2 ^ 64 by omega), Nat.shiftLeft_eq, Nat.mod_eq_of_lt (show F * 2 ^ 52 < 2 ^ 64 by omega)]
  have h2 := Nat.two_pow_add_eq_or_of_lt (i := 52) (b := x.toNat % 4503599627370496) (Nat.mod_lt _ (by decide)) F
  rw [Nat.or_comm, Nat.mul_comm F, ← h2]
theorem read_norm (F f : Nat) (hF1 : 1 ≤ F) (hF : F < 2047) (hf : f < 4503599627370496) :
    Ieee.double.read (F * 4503599627370496 + f) = .number false (4503599627370496 + f) (-1074 + ((F - 1 : Nat) : Int)) := by
  rw [read_dbl]
  have h1 : (F * 4503599627370496 + f) % 9223372036854775808 = F * 4503599627370496 + f := Nat.mod_eq_of_lt (by omega)
  have hs : ((F * 4503599627370496 + f) / 9223372036854775808 % 2 == 1) = false := by rw [Nat.div_eq_of_lt (by omega)]; rfl
  have h2 : (F * 4503599627370496 + f) % 4503599627370496 = f := by omega
  have h3 : (F * 4503599627370496 + f) / 4503599627370496 = F := by omega
  rw [h1, hs, if_neg (by omega), if_pos (by omega), h2, h3]

/-- 1.0 times a word that is the number's: the number. -/
theorem mul_one_fit (m : Nat) (e : Int) (h : InR m e) (L f F : Nat) (hL : m.log2 = L) (hm : m * 2 ^ (52 - L) = 4503599627370496 + f) (hf : f < 4503599627370496) (hl : L ≤ 52)
    (hF : (F : Int) = e + L + 1023) (hF1 : 1 ≤ F) (hF2 : F < 2047) :
    floatBits .mul .f64 4607182418800017408 (F * 4503599627370496 + f) = some (ldN m e) := by
  unfold floatBits
  show Ieee.double.mul _ _ = _
  unfold Ieee.Format.mul
  have r1 : Ieee.double.read 4607182418800017408 = .number false 4503599627370496 (-52) := by decide +kernel
  rw [r1, read_norm F f hF1 hF2 hf]
  show some (Ieee.double.nearest (false ^^ false) _ _) = _
  congr 1
  unfold ldN
  have hu := h.up
  have hk : upK m e ≤ 52 - m.log2 := Nat.min_le_left _ _
  have he1 : -52 + (-1074 + ((F - 1 : Nat) : Int)) ≤ e - upK m e := by omega
  have he2 : e - (upK m e : Int) ≤ e := by omega
  rw [show (false ^^ false) = false from rfl,
    nearest_exact false _ _ (m * 2 ^ upK m e) (e - upK m e) h.up0 hu.1 hu.2.2.1 hu.2.1 (fun _ => ?_) (fun hle => ?_),
    nearest_exact false m e (m * 2 ^ upK m e) (e - upK m e) h.up0 hu.1 hu.2.2.1 hu.2.1 (fun hle => ?_) (fun _ => ?_)]
  · have : upK m e = 0 := by omega
    rw [this]; simp
  · congr 2; omega
  · rw [← hm, Nat.mul_comm, Nat.mul_assoc, Nat.mul_assoc, ← Nat.pow_add, show 4503599627370496 = 2 ^ 52 from rfl, ← Nat.pow_add]
    congr 2
    omega
  · exfalso; omega
theorem mul_small_fit (m : Nat) (e : Int) (h : InR m e) (L f F : Nat) (hL : m.log2 = L) (hm : m * 2 ^ (52 - L) = 4503599627370496 + f) (hf : f < 4503599627370496) (hl : L ≤ 52)
    (hF : (F : Int) = e + L + 53 + 1023) (hF1 : 1 ≤ F) (hF2 : F < 2047) :
    floatBits .mul .f64 4368491638549381120 (F * 4503599627370496 + f) = some (ldN m e) := by
  unfold floatBits
  show Ieee.double.mul _ _ = _
  unfold Ieee.Format.mul
  have r1 : Ieee.double.read 4368491638549381120 = .number false 4503599627370496 (-105) := by decide +kernel
  rw [r1, read_norm F f hF1 hF2 hf]
  show some (Ieee.double.nearest (false ^^ false) _ _) = _
  congr 1
  unfold ldN
  have hu := h.up
  have hk : upK m e ≤ 52 - m.log2 := Nat.min_le_left _ _
  have he1 : -105 + (-1074 + ((F - 1 : Nat) : Int)) ≤ e - upK m e := by omega
  have he2 : e - (upK m e : Int) ≤ e := by omega
  rw [show (false ^^ false) = false from rfl,
    nearest_exact false _ _ (m * 2 ^ upK m e) (e - upK m e) h.up0 hu.1 hu.2.2.1 hu.2.1 (fun _ => ?_) (fun hle => ?_),
    nearest_exact false m e (m * 2 ^ upK m e) (e - upK m e) h.up0 hu.1 hu.2.2.1 hu.2.1 (fun hle => ?_) (fun _ => ?_)]
  · have : upK m e = 0 := by omega
    rw [this]; simp
  · congr 2; omega
  · rw [← hm, Nat.mul_comm, Nat.mul_assoc, Nat.mul_assoc, ← Nat.pow_add, show 4503599627370496 = 2 ^ 52 from rfl, ← Nat.pow_add]
    congr 2
    omega
  · exfalso; omega
end Go.Proofs.YtecgjhjglklcnaaDoor

/-! ### Ldexp of a whole number that fits: the walk. -/
namespace Go.Proofs.YtecgjhjglklcnaaDoor
set_option maxRecDepth 100000
open Go.RowKit Go.Shelf Go.Sort
attribute [local go_sem] frombits tobits n64_and n64_or n64_xor n64_andNot k_clr
attribute [local go_sem high] un64_not
attribute [local go_sem high] k_shr52 k_shl52

theorem and_2047 (c : Nat) (h : c < 2048) : bits .and .i64 (c : Int) 2047 = (c : Int) := by
  have hk : ∀ n : Int, 0 ≤ n → n < 2048 → IntKind.i64.wrap n = n := fun n h0 h1 => by
    have hm : n % 18446744073709551616 = n := Int.emod_eq_of_lt h0 (by omega)
    simp only [IntKind.wrap, IntKind.bits, IntKind.signed]
    simp [hm]
    omega
  have h1 : (BitVec.ofInt 64 (c : Int)).toNat = c := by
    rw [BitVec.ofInt_natCast, BitVec.toNat_ofNat]; exact Nat.mod_eq_of_lt (by omega)
  have h2 : (BitVec.ofInt 64 2047).toNat = 2 ^ 11 - 1 := by decide
  show IntKind.i64.wrap ((BitVec.ofInt 64 (c : Int) &&& BitVec.ofInt 64 2047).toNat : Int) = _
  rw [BitVec.toNat_and, h1, h2, Nat.and_two_pow_sub_one_eq_mod, Nat.mod_eq_of_lt (by omega), hk _ (by omega) (by omega)]

theorem w64id (z : Int) (h0 : -9223372036854775808 ≤ z) (h1 : z ≤ 9223372036854775807) : wrap64 z = z := by unfold wrap64; omega
theorem wrap_shl52 (G : UInt64) : IntKind.u64.wrap (n64 G * 4503599627370496) = n64 (G <<< (52 : UInt64)) := by
  have h := n64_shl G 52 (by omega)
  have e : (2 : Int) ^ 52 = 4503599627370496 := by decide +kernel
  have e2 : UInt64.ofNat 52 = 52 := by decide
  rw [e, e2] at h; exact h
set_option maxHeartbeats 2000000 in
theorem ldexp_fits (m : Nat) (e : Int) (h : InR m e) (w : World) :
    Calls Tryd.prog 101 #[.float .f64 (fb (fOf m)), .int .i64 e] w fun v w' => v = .returned (.float .f64 (fb (ldW m e))) ∧ w' = w := by
  obtain ⟨f, hf, hX, hm, hl⟩ := fOf_nat h.ne h.lt
  obtain ⟨L, hL⟩ : ∃ L, m.log2 = L := ⟨_, rfl⟩
  rw [hL] at hX hm hl
  have hlo := h.lo
  have hhi := h.hi
  rw [hL] at hhi
  have hn0 := h.ld.2
  have hw := h.ldW_nat
  have X63 : (fOf m).toNat < 9218868437227405312 := by omega
  -- tests
  have q1 : (FloatKind.f64.format.order (fb (fOf m)) 0 == some Ordering.eq) = false := by
    show (Ieee.double.order _ _ == _) = _
    rw [order_pos (fb (fOf m)) 0 X63 (by decide), show compare (fb (fOf m)) 0 = .gt from Nat.compare_eq_gt.2 (show 0 < (fOf m).toNat by omega)]; rfl
  have habs : fOf m &&& ~~~topW = fOf m := by
    apply UInt64.toNat_inj.1; rw [notop_nat, Nat.mod_eq_of_lt (by omega)]
  have q2 : infB (fOf m) = false := by
    unfold infB; rw [habs]
    show (Ieee.double.order _ _ == _) = _
    rw [order_pos (fb (fOf m)) 9218868437227405311 X63 (by decide)]; unfold fb
    cases hc : compare (fOf m).toNat 9218868437227405311 with
    | lt => rfl
    | eq => rfl
    | gt => have := Nat.compare_eq_gt.1 hc; omega
  have q3 : nanB (fOf m) = false := by unfold nanB; simp; omega
  have q4 : subB (fOf m) = false := by
    unfold subB; rw [habs]
    show (Ieee.double.order _ _ == _) = _
    rw [order_pos (fb (fOf m)) 4503599627370496 X63 (by decide)]; unfold fb
    cases hc : compare (fOf m).toNat 4503599627370496 with
    | lt => have := Nat.compare_eq_lt.1 hc; omega
    | eq => rfl
    | gt => rfl
  have Q4 := Lib.hid q4; clear q4
  obtain ⟨c, hc⟩ : ∃ c, c = L + 1023 := ⟨_, rfl⟩
  have h1 : n64 (fOf m >>> 52) = (c : Int) := by
    unfold n64; rw [UInt64.toNat_shiftRight]
    have e1 : (52 : UInt64).toNat % 64 = 52 := rfl
    rw [e1, Nat.shiftRight_eq_div_pow, hX, hc]; congr 1; omega
  have HH1 := Lib.hid h1; clear h1
  have hc48 : c < 2048 := by rw [hc]; exact Nat.lt_of_le_of_lt (Nat.add_le_add_right hl 1023) (by decide)
  have h4' : (c : Int) - 1023 = (L : Int) := by omega
  obtain ⟨E, hE⟩ : ∃ E, E = e + (L : Int) := ⟨_, rfl⟩
  have t1 : decide (E < -1075) = false := by simp; omega
  have t2 : decide (1023 < E) = false := by simp; omega
  have x63 : (fOf m).toNat < 9223372036854775808 := by omega
  have hmf : (fOf m).toNat % 4503599627370496 = f := by rw [hX]; omega
  have e1 : -9223372036854775808 ≤ (L : Int) := by omega
  have e2 : (L : Int) ≤ 9223372036854775807 := by omega
  have e3 : -9223372036854775808 ≤ e := by omega
  have e4 : e ≤ 9223372036854775807 := by omega
  have e5 : -9223372036854775808 ≤ E := by omega
  have e6 : E ≤ 9223372036854775807 := by omega
  have H2 := Lib.hid (w64id (c : Int) (by omega) (by omega))
  have H3 := Lib.hid (and_2047 c hc48)
  have H4 : Hid (wrap64 ((c : Int) - 1023) = (L : Int)) := by rw [h4']; exact w64id _ e1 e2
  have H5 : Hid (wrap64 (e + (L : Int)) = E) := by rw [← hE]; exact w64id _ e5 e6
  have H6 := Lib.hid (w64id e e3 e4)
  by_cases hs : E < -1022
  · have t3 : decide (E < -1022) = true := by simpa using hs
    obtain ⟨F, hF⟩ : ∃ F : Nat, (F : Int) = E + 53 + 1023 := ⟨(E + 53 + 1023).toNat, by omega⟩
    have f1 : -9223372036854775808 ≤ E + 53 := by omega
    have f2 : E + 53 ≤ 9223372036854775807 := by omega
    have f3 : -9223372036854775808 ≤ (F : Int) := by omega
    have f4 : (F : Int) ≤ 9223372036854775807 := by omega
    have f5 : F < 18446744073709551616 := by omega
    have f6 : F < 2048 := by omega
    have hfl := mul_small_fit m e h L f F hL hm hf hl (by omega) (by omega) (by omega)
    have h10 : IntKind.u64.wrap (F : Int) = n64 (UInt64.ofNat F) := by rw [IntKind.wrap_u64, n64_of _ f5]; clear hfl; omega
    have hput := put_nat (fOf m) F x63 f6
    rw [hmf] at hput
    have hmul : ∀ W, (binOp .mul 22 (.float .f64 4368491638549381120) (.float .f64 (fb ((fOf m &&& ~~~(9218868437227405312 : UInt64)) ||| (UInt64.ofNat F <<< (52 : UInt64)))))).run Tryd.prog W = .ok (.float .f64 (fb (ldW m e))) W := fun W => by
      unfold fb
      rw [hput, hw]
      exact run_float_arith W .mul 22 .f64 _ _ _ hfl
    have h9 := w64id (F : Int) f3 f4
    rw [hF] at h9
    have h9b : wrap64 (E + 53 + 1023) = (F : Int) := by rw [h9, hF]
    have h12 := w64id (F : Int) f3 f4
    have h8 := w64id (E + 53) f1 f2
    have h9c : E + 53 + 1023 = (F : Int) := hF.symm
    clear hfl hput hmf hX hm hl hlo hhi hn0 hw X63 x63 habs hE hF hs hc hL h hf h9 f1 f2 f3 f4 f5 f6 e1 e2 e3 e4
    have h3 := H3.out; have h2 := H2.out; have h4 := H4.out; have h5 := H5.out; have h6 := H6.out
    have h11 := wrap_shl52 (UInt64.ofNat F)
    generalize UInt64.ofNat F = G at *
    have h1 := HH1.out
    go_enter Tryd.func101, Tryd.ntmps101
    go_wp2_with (first
      | (go_at_call 107; refine (isInf_any _ _).mono ?_; rintro e w ⟨rfl, rfl⟩)
      | (go_at_call 108; refine (isNaN_any _ _).mono ?_; rintro e w ⟨rfl, rfl⟩)
      | (go_at_call 109; refine (normalize_big _ Q4.out _).mono ?_; rintro e w ⟨rfl, rfl⟩))
    go_ret
    exact ⟨rfl, rfl⟩
  · have t3 : decide (E < -1022) = false := by simpa using hs
    obtain ⟨F, hF⟩ : ∃ F : Nat, (F : Int) = E + 1023 := ⟨(E + 1023).toNat, by omega⟩
    have f1 : -9223372036854775808 ≤ E + 53 := by omega
    have f2 : E + 53 ≤ 9223372036854775807 := by omega
    have f3 : -9223372036854775808 ≤ (F : Int) := by omega
    have f4 : (F : Int) ≤ 9223372036854775807 := by omega
    have f5 : F < 18446744073709551616 := by omega
    have f6 : F < 2048 := by omega
    have hfl := mul_one_fit m e h L f F hL hm hf hl (by omega) (by omega) (by omega)
    have h10 : IntKind.u64.wrap (F : Int) = n64 (UInt64.ofNat F) := by rw [IntKind.wrap_u64, n64_of _ f5]; clear hfl; omega
    have hput := put_nat (fOf m) F x63 f6
    rw [hmf] at hput
    have hmul : ∀ W, (binOp .mul 22 (.float .f64 4607182418800017408) (.float .f64 (fb ((fOf m &&& ~~~(9218868437227405312 : UInt64)) ||| (UInt64.ofNat F <<< (52 : UInt64)))))).run Tryd.prog W = .ok (.float .f64 (fb (ldW m e))) W := fun W => by
      unfold fb
      rw [hput, hw]
      exact run_float_arith W .mul 22 .f64 _ _ _ hfl
    have h9 := w64id (F : Int) f3 f4
    rw [hF] at h9
    have h9b : wrap64 (E + 1023) = (F : Int) := by rw [h9, hF]
    have h12 := w64id (F : Int) f3 f4
    have h9c : E + 1023 = (F : Int) := hF.symm
    clear hfl hput hmf hX hm hl hlo hhi hn0 hw X63 x63 habs hE hF hs hc hL h hf h9 f1 f2 f3 f4 f5 f6 e1 e2 e3 e4
    have h3 := H3.out; have h2 := H2.out; have h4 := H4.out; have h5 := H5.out; have h6 := H6.out
    have h11 := wrap_shl52 (UInt64.ofNat F)
    generalize UInt64.ofNat F = G at *
    have h1 := HH1.out
    go_enter Tryd.func101, Tryd.ntmps101
    go_wp2_with (first
      | (go_at_call 107; refine (isInf_any _ _).mono ?_; rintro e w ⟨rfl, rfl⟩)
      | (go_at_call 108; refine (isNaN_any _ _).mono ?_; rintro e w ⟨rfl, rfl⟩)
      | (go_at_call 109; refine (normalize_big _ Q4.out _).mono ?_; rintro e w ⟨rfl, rfl⟩))
    go_ret
    exact ⟨rfl, rfl⟩
end Go.Proofs.YtecgjhjglklcnaaDoor
