/-
  Plain laws: the nearest double of an exact value. No program in sight.
  Ldexp; the texts' parts: cut, digits, small, and the reference's digits and number.
-/
import Derived.Test.YtalpbphfmelhhaaGreatDoorNB
/-! ### Plain laws: the nearest double of an exact value. No program in sight. -/
/-! ### Plain laws: the nearest double of an exact value. No program in sight. -/
namespace Go.Proofs.YtalpbphfmelhhaaGreatDoor
set_option maxRecDepth 100000
open Go.RowKit Go.Shelf Go.Sort

theorem log2_two_pow_mul (m j : Nat) (hm : m ≠ 0) : (m * 2 ^ j).log2 = m.log2 + j := by
  have h1 : 2 ^ m.log2 ≤ m := Nat.log2_self_le hm
  have h2 : m < 2 ^ (m.log2 + 1) := Nat.lt_log2_self
  have h3 : m * 2 ^ j ≠ 0 := Nat.mul_ne_zero hm (by have := Nat.two_pow_pos j; omega)
  refine Nat.le_antisymm ?_ ?_
  · refine Nat.le_of_lt_succ ((Nat.log2_lt h3).2 ?_)
    rw [show (m.log2 + j).succ = (m.log2 + 1) + j by omega, Nat.pow_add]
    exact Nat.mul_lt_mul_of_pos_right h2 (Nat.two_pow_pos _)
  · exact (Nat.le_log2 h3).2 (by rw [Nat.pow_add]; exact Nat.mul_le_mul_right _ h1)

theorem cut_exact (neg : Bool) (q d : Nat) (hq : q ≠ 0) : Ieee.Toward.even.cut neg (q * 2 ^ d) d = q := by
  unfold Ieee.Toward.cut
  have hl : d ≤ (q * 2 ^ d).log2 := by rw [log2_two_pow_mul q d hq]; omega
  simp only []
  rw [Nat.min_eq_left (by omega), Nat.one_shiftLeft, Nat.mul_div_cancel _ (Nat.two_pow_pos _), Nat.mul_mod_left]
  have := Nat.two_pow_pos d
  have h1 : decide (2 ^ d < 2 * 0) = false := by simp
  have h2 : (2 ^ d == 2 * 0) = false := by simp
  rw [h1, h2]; rfl

theorem log2_eq {m k : Nat} (h1 : 2 ^ k ≤ m) (h2 : m < 2 ^ (k + 1)) : m.log2 = k := by
  have h0 : m ≠ 0 := by have := Nat.two_pow_pos k; omega
  have a := (Nat.le_log2 h0).2 h1
  have b := (Nat.log2_lt h0).2 h2
  omega

/-- A value that the format has is its own nearest. -/
theorem nearest_exact (neg : Bool) (M : Nat) (P : Int) (m : Nat) (e : Int) (h0 : m ≠ 0) (h53 : m < 9007199254740992) (he : -1074 ≤ e) (hn : 4503599627370496 ≤ m ∨ e = -1074)
    (hlo : P ≤ e → M = m * 2 ^ (e - P).toNat) (hhi : e ≤ P → m = M * 2 ^ (P - e).toNat) :
    Ieee.double.nearest neg M P = Ieee.double.word neg (min ((e + 1074).toNat * 4503599627370496 + m) 9218868437227405312) := by
  have h2 : Ieee.double.binade = 4503599627370496 := by decide
  have h3 : Ieee.double.infRung = 9218868437227405312 := by decide
  have h4 : Ieee.double.leastPlace = -1074 := by decide
  have h5 : (Ieee.double.fractionBits : Int) = 52 := by decide
  have hM : M ≠ 0 := by
    rcases Int.le_total P e with h | h
    · rw [hlo h]; exact Nat.mul_ne_zero h0 (by have := Nat.two_pow_pos (e - P).toNat; omega)
    · intro hz; rw [hz, Nat.zero_mul] at hhi; exact h0 (hhi h)
  have hlog : P + (M.log2 : Int) = e + (m.log2 : Int) := by
    rcases Int.le_total P e with h | h
    · rw [hlo h, log2_two_pow_mul _ _ h0]; omega
    · rw [hhi h, log2_two_pow_mul _ _ hM]; omega
  have hL : m.log2 ≤ 52 := by have := (Nat.log2_lt h0 (k := 53)).2 (by omega); omega
  have hlast : max (P + (M.log2 : Int) - 52) (-1074) = e := by
    rw [hlog]
    rcases hn with hn | hn
    · have : m.log2 = 52 := log2_eq (by omega) (by omega)
      omega
    · omega
  unfold Ieee.Format.nearest
  rw [if_neg hM]
  simp only [h2, h3, h4, h5, hlast]
  have hk : Ieee.Toward.even.cut neg (M <<< (P - e).toNat) (e - P).toNat = m := by
    rcases Int.le_total P e with h | h
    · rw [show (P - e).toNat = 0 by omega, Nat.shiftLeft_zero, hlo h]
      exact cut_exact neg m _ h0
    · rw [show (e - P).toNat = 0 by omega, Nat.shiftLeft_eq, ← hhi h]
      have := cut_exact neg m 0 h0
      rwa [Nat.pow_zero, Nat.mul_one] at this
  rw [hk]
  congr 1
end Go.Proofs.YtalpbphfmelhhaaGreatDoor

/-! ### Plain laws: a number's odd part and its place, and the word that they make. -/
namespace Go.Proofs.YtalpbphfmelhhaaGreatDoor
set_option maxRecDepth 100000
open Go.RowKit Go.Shelf Go.Sort

/-- Odd or not, it fits the format. -/
structure InR (m : Nat) (e : Int) : Prop where
  ne : m ≠ 0
  lt : m < 9007199254740992
  lo : -1074 ≤ e
  hi : (m.log2 : Int) + 1 + e ≤ 1024
/-- The bits of m·2^e. -/
def ldN (m : Nat) (e : Int) : Nat := Ieee.double.nearest false m e
/-- How far the digits are moved up. -/
def upK (m : Nat) (e : Int) : Nat := min (52 - m.log2) (e + 1074).toNat
theorem InR.log {m : Nat} {e : Int} (h : InR m e) : m.log2 ≤ 52 := by have := (Nat.log2_lt h.ne (k := 53)).2 (by have := h.lt; omega); omega
theorem InR.up {m : Nat} {e : Int} (h : InR m e) : m * 2 ^ upK m e < 9007199254740992 ∧ (4503599627370496 ≤ m * 2 ^ upK m e ∨ e - upK m e = -1074) ∧ -1074 ≤ e - upK m e ∧ e - upK m e ≤ 971 := by
  have hl := h.log
  have h1 : 2 ^ m.log2 ≤ m := Nat.log2_self_le h.ne
  have h2 : m < 2 ^ (m.log2 + 1) := Nat.lt_log2_self
  have hlo := h.lo
  have hhi := h.hi
  have hk : upK m e ≤ 52 - m.log2 := Nat.min_le_left _ _
  have hk2 : upK m e ≤ (e + 1074).toNat := Nat.min_le_right _ _
  have hk3 : upK m e = 52 - m.log2 ∨ upK m e = (e + 1074).toNat := by unfold upK; omega
  refine ⟨?_, ?_, by omega, by omega⟩
  · calc m * 2 ^ upK m e < 2 ^ (m.log2 + 1) * 2 ^ upK m e := Nat.mul_lt_mul_of_pos_right h2 (Nat.two_pow_pos _)
      _ = 2 ^ (m.log2 + 1 + upK m e) := (Nat.pow_add _ _ _).symm
      _ ≤ 2 ^ 53 := Nat.pow_le_pow_right (by decide) (by omega)
  · rcases hk3 with hk3 | hk3
    · left
      calc 4503599627370496 = 2 ^ (m.log2 + upK m e) := by rw [hk3, show m.log2 + (52 - m.log2) = 52 by omega]
        _ = 2 ^ m.log2 * 2 ^ upK m e := Nat.pow_add _ _ _
        _ ≤ m * 2 ^ upK m e := Nat.mul_le_mul_right _ h1
    · right; omega
theorem InR.up0 {m : Nat} {e : Int} (h : InR m e) : m * 2 ^ upK m e ≠ 0 := Nat.mul_ne_zero h.ne (by have := Nat.two_pow_pos (upK m e); omega)
theorem InR.ld {m : Nat} {e : Int} (h : InR m e) : ldN m e = (e - upK m e + 1074).toNat * 4503599627370496 + m * 2 ^ upK m e ∧ ldN m e < 9218868437227405312 := by
  obtain ⟨h1, h2, h3, h4⟩ := h.up
  have hb : (e - upK m e + 1074).toNat * 4503599627370496 + m * 2 ^ upK m e < 9218868437227405312 := by omega
  have : ldN m e = (e - upK m e + 1074).toNat * 4503599627370496 + m * 2 ^ upK m e := by
    unfold ldN
    rw [nearest_exact false m e (m * 2 ^ upK m e) (e - upK m e) h.up0 h1 h3 h2 (fun hle => ?_) (fun _ => ?_)]
    · rw [Nat.min_eq_left (by omega)]; rfl
    · have : upK m e = 0 := by omega
      rw [this]; simp
    · congr 2; omega
  exact ⟨this, by rw [this]; exact hb⟩
def ldW (m : Nat) (e : Int) : UInt64 := UInt64.ofNat (ldN m e)
theorem InR.ldW_nat {m : Nat} {e : Int} (h : InR m e) : (ldW m e).toNat = ldN m e := by
  have := h.ld.2
  unfold ldW; rw [UInt64.toNat_ofNat', Nat.mod_eq_of_lt (by omega)]
theorem exp0_nat (b : UInt64) : exp0 b = if b.toNat / 4503599627370496 % 2048 = 0 then -1074 else ((b.toNat / 4503599627370496 % 2048 : Nat) : Int) - 1075 := by
  unfold exp0
  have e : expW b = 0 ↔ b.toNat / 4503599627370496 % 2048 = 0 := by
    rw [← expW_nat, ← UInt64.toNat_inj]; exact Iff.rfl
  by_cases h : expW b = 0
  · rw [if_pos h, if_pos (e.1 h)]
  · rw [if_neg h, if_neg (fun h' => h (e.2 h'))]; unfold n64; rw [expW_nat]
theorem InR.mant {m : Nat} {e : Int} (h : InR m e) : (mantW (ldW m e)).toNat = m * 2 ^ upK m e ∧ exp0 (ldW m e) = e - upK m e := by
  obtain ⟨h1, h2, h3, h4⟩ := h.up
  obtain ⟨h5, h6⟩ := h.ld
  have h0 := h.up0
  rw [mantW_nat, exp0_nat, h.ldW_nat, h5]
  generalize m * 2 ^ upK m e = M at *
  generalize e - upK m e = E at *
  by_cases hM : M < 4503599627370496
  · have hE : E = -1074 := by omega
    subst hE
    have e1 : ((-1074 : Int) + 1074).toNat * 4503599627370496 + M = M := by simp
    rw [e1, if_pos (by omega), if_pos (by omega)]
    exact ⟨by omega, rfl⟩
  · rw [if_neg (by omega), if_neg (by omega)]
    constructor <;> omega
theorem odd_unique {a b i j : Nat} (ha : a % 2 = 1) (hb : b % 2 = 1) (h : a * 2 ^ i = b * 2 ^ j) : a = b ∧ i = j := by
  rcases Nat.lt_trichotomy i j with hij | hij | hij
  · exfalso
    obtain ⟨d, rfl⟩ : ∃ d, j = i + (d + 1) := ⟨j - i - 1, by omega⟩
    rw [Nat.pow_add, ← Nat.mul_assoc, Nat.mul_right_comm] at h
    have h3 := Nat.eq_of_mul_eq_mul_right (Nat.two_pow_pos _) h
    rw [Nat.pow_succ, ← Nat.mul_assoc] at h3
    omega
  · subst hij
    exact ⟨Nat.eq_of_mul_eq_mul_right (Nat.two_pow_pos _) h, rfl⟩
  · exfalso
    obtain ⟨d, rfl⟩ : ∃ d, i = j + (d + 1) := ⟨i - j - 1, by omega⟩
    rw [Nat.pow_add, ← Nat.mul_assoc, Nat.mul_right_comm] at h
    have h3 := Nat.eq_of_mul_eq_mul_right (Nat.two_pow_pos _) h
    rw [Nat.pow_succ, ← Nat.mul_assoc] at h3
    omega
theorem InR.mant0 {m : Nat} {e : Int} (h : InR m e) : mantW (ldW m e) ≠ 0 := u64_of_ne0 (by rw [h.mant.1]; exact h.up0)
/-- There and back. -/
theorem InR.parts {m : Nat} {e : Int} (h : InR m e) (ho : m % 2 = 1) : (partM (ldW m e)).toNat = m ∧ partE (ldW m e) = e := by
  obtain ⟨h1, h2⟩ := partM_spec _ h.mant0
  rw [h.mant.1] at h1
  obtain ⟨ha, hb⟩ := odd_unique ho h2 h1
  refine ⟨ha.symm, ?_⟩
  unfold partE; rw [h.mant.2, ← hb]; omega
/-- A number above 0 that is finite. -/
def FinW (b : UInt64) : Prop := b.toNat < 9218868437227405312 ∧ mantW b ≠ 0
theorem mant_bd (b : UInt64) : (mantW b).toNat < 9007199254740992 := by rw [mantW_nat]; split <;> omega
theorem FinW.exp {b : UInt64} (h : FinW b) : exp0 b ≤ 971 := by
  have h1 := h.1
  rw [exp0_nat]
  split
  · decide
  · omega
theorem FinW.inR {b : UInt64} (h : FinW b) : InR (partM b).toNat (partE b) := by
  have hx := h.exp
  obtain ⟨h1, h2⟩ := h
  obtain ⟨h3, h4⟩ := partM_spec b h2
  have h5 := mant_bd b
  have h6 := u64_ne0 h2
  have hp : (partM b).toNat ≤ (mantW b).toNat := by rw [h3]; exact Nat.le_mul_of_pos_right _ (Nat.two_pow_pos _)
  have hl : (mantW b).toNat.log2 = (partM b).toNat.log2 + tzW b := by rw [h3]; exact log2_two_pow_mul _ _ (by omega)
  have hm52 := (Nat.log2_lt h6 (k := 53)).2 (Nat.lt_of_lt_of_eq h5 (by decide))
  refine ⟨by omega, Nat.lt_of_le_of_lt hp h5, (partE_bd b h2).1, ?_⟩
  unfold partE
  rw [hl] at hm52
  clear h3 h5 hp hl h1 h4 h6
  omega
theorem word_pos (r : Nat) : Ieee.double.word false r = r := rfl
theorem back_num (n M : Nat) (E : Int) (h1 : n < 9218868437227405312)
    (he : E = if n / 4503599627370496 % 2048 = 0 then -1074 else ((n / 4503599627370496 % 2048 : Nat) : Int) - 1075)
    (hm : M = if n / 4503599627370496 % 2048 = 0 then n % 4503599627370496 else n % 4503599627370496 + 4503599627370496) :
    (E + 1074).toNat * 4503599627370496 + M = n ∧ -1074 ≤ E ∧ (4503599627370496 ≤ M ∨ E = -1074) := by
  by_cases hq : n / 4503599627370496 % 2048 = 0
  · rw [if_pos hq] at he hm
    subst he hm
    refine ⟨?_, by decide, Or.inr rfl⟩
    have : ((-1074 : Int) + 1074).toNat = 0 := rfl
    rw [this]; omega
  · rw [if_neg hq] at he hm
    have h2 : n / 4503599627370496 % 2048 = n / 4503599627370496 := by omega
    rw [h2] at he hq
    have h3 : (E + 1074).toNat = n / 4503599627370496 - 1 := by omega
    rw [h3]
    refine ⟨by omega, by omega, Or.inl (by omega)⟩
theorem FinW.back {b : UInt64} (h : FinW b) : ldW (partM b).toNat (partE b) = b := by
  obtain ⟨h1, h2⟩ := h
  obtain ⟨h3, h4⟩ := partM_spec b h2
  have h5 := mant_bd b
  have h6 := u64_ne0 h2
  obtain ⟨h7, h8, h9⟩ := back_num _ _ _ h1 (exp0_nat b) (mantW_nat b)
  apply UInt64.toNat_inj.1
  rw [(FinW.inR ⟨h1, h2⟩).ldW_nat]
  unfold ldN
  rw [nearest_exact false _ _ (mantW b).toNat (exp0 b) h6 h5 h8 h9 (fun hle => ?_) (fun hle => ?_)]
  · rw [word_pos, h7]
    exact Nat.min_eq_left (Nat.le_of_lt h1)
  · have ht : tzW b = 0 := by unfold partE at hle; omega
    have : (exp0 b - partE b).toNat = 0 := by unfold partE; omega
    rw [this, h3, ht, Nat.pow_zero, Nat.mul_one, Nat.mul_one]
  · have : (partE b - exp0 b).toNat = tzW b := by unfold partE; omega
    rw [this, h3]
end Go.Proofs.YtalpbphfmelhhaaGreatDoor

/-! ### The walks of Ldexp and what it calls. -/
namespace Go.Proofs.YtalpbphfmelhhaaGreatDoor
set_option maxRecDepth 100000
open Go.RowKit Go.Shelf Go.Sort
attribute [local go_sem] frombits tobits n64_and n64_or n64_xor n64_andNot
attribute [local go_sem high] un64_not
attribute [local go_sem] k_top k_ortop k_antop k_xortop k_2047 k_frac fnan
attribute [local go_sem high] k_shr52
set_option maxHeartbeats 400000 in
theorem abs_any (x : UInt64) (w : World) : Calls Tryz.prog 168 #[.float .f64 (fb x)] w fun e w' => e = .returned (.float .f64 (fb (x &&& ~~~topW))) ∧ w' = w := by
  go_enter Tryz.func168, Tryz.ntmps168
  go_wp2
  go_ret
  exact ⟨rfl, rfl⟩

set_option maxHeartbeats 400000 in
theorem inf_pos (w : World) : Calls Tryz.prog 114 #[.int .i64 1] w fun e w' => e = .returned (.float .f64 (fb 9218868437227405312)) ∧ w' = w := by
  have h : ∀ W, (callFunc 97 #[.int .u64 9218868437227405312]).run Tryz.prog W = .ok (.value (.float .f64 (fb 9218868437227405312))) W := fun W => frombits0 _ W
  go_enter Tryz.func114, Tryz.ntmps114
  go_wp2
  go_ret
  exact ⟨rfl, rfl⟩
set_option maxHeartbeats 400000 in
theorem inf_neg (w : World) : Calls Tryz.prog 114 #[.int .i64 (-1)] w fun e w' => e = .returned (.float .f64 (fb 18442240474082181120)) ∧ w' = w := by
  have h : ∀ W, (callFunc 97 #[.int .u64 18442240474082181120]).run Tryz.prog W = .ok (.value (.float .f64 (fb 18442240474082181120))) W := fun W => frombits0 _ W
  go_enter Tryz.func114, Tryz.ntmps114
  go_wp2
  go_ret
  exact ⟨rfl, rfl⟩

set_option maxHeartbeats 400000 in
theorem isNaN_any (x : UInt64) (w : World) : Calls Tryz.prog 159 #[.float .f64 (fb x)] w fun e w' => e = .returned (.bool (nanB x)) ∧ w' = w := by
  have hn := neq_self x
  go_enter Tryz.func159, Tryz.ntmps159
  go_wp2
  go_ret
  exact ⟨rfl, rfl⟩

def infB (x : UInt64) : Bool := FloatKind.f64.format.order (fb (x &&& ~~~topW)) 9218868437227405311 == some .gt
set_option maxHeartbeats 400000 in
theorem isInf_any (x : UInt64) (w : World) : Calls Tryz.prog 158 #[.float .f64 (fb x), .int .i64 0] w fun e w' => e = .returned (.bool (infB x)) ∧ w' = w := by
  go_enter Tryz.func158, Tryz.ntmps158
  go_wp2_with (go_at_call 168; refine (abs_any _ _).mono ?_; rintro e w ⟨rfl, rfl⟩)
  go_ret
  exact ⟨rfl, rfl⟩

set_option maxHeartbeats 400000 in
theorem copysign_any (x y : UInt64) (w : World) : Calls Tryz.prog 161 #[.float .f64 (fb x), .float .f64 (fb y)] w fun e w' => e = .returned (.float .f64 (fb ((x &&& ~~~topW) ||| (y &&& topW)))) ∧ w' = w := by
  go_enter Tryz.func161, Tryz.ntmps161
  go_wp2
  go_ret
  exact ⟨rfl, rfl⟩

def subB (x : UInt64) : Bool := FloatKind.f64.format.order (fb (x &&& ~~~topW)) 4503599627370496 == some .lt
set_option maxHeartbeats 400000 in
theorem normalize_big (x : UInt64) (h : subB x = false) (w : World) : Calls Tryz.prog 160 #[.float .f64 (fb x)] w fun e w' => e = .returned (.tuple #[.float .f64 (fb x), .int .i64 0]) ∧ w' = w := by
  unfold subB at h
  go_enter Tryz.func160, Tryz.ntmps160
  go_wp2_with (go_at_call 168; refine (abs_any _ _).mono ?_; rintro e w ⟨rfl, rfl⟩)
  go_ret2
  exact ⟨rfl, rfl⟩
set_option maxHeartbeats 400000 in
theorem normalize_any (x : UInt64) (w : World) : Calls Tryz.prog 160 #[.float .f64 (fb x)] w fun e w' => ∃ (y : UInt64) (k : Int) (nd : Nat), e = .returned (.tuple #[.float .f64 (fb y), .int .i64 k]) ∧ w' = w.drewN nd := by
  cases hs : subB x with
  | false =>
    refine (normalize_big x hs w).mono ?_
    rintro e w' ⟨rfl, rfl⟩
    exact ⟨x, 0, 0, rfl, rfl⟩
  | true =>
    unfold subB at hs
    obtain ⟨q, nd, hrun, hq⟩ := run_fl (P := Tryz.prog) .mul (by simp) 46 x 4841369599423283200 w
    clear hq
    have hrun : (binOp .mul 46 (.float .f64 (fb x)) (.float .f64 4841369599423283200)).run Tryz.prog w = .ok (.float .f64 (fb q)) (w.drewN nd) := hrun
    go_enter Tryz.func160, Tryz.ntmps160
    go_wp2_with (go_at_call 168; refine (abs_any _ _).mono ?_; rintro e w ⟨rfl, rfl⟩)
    go_ret2
    exact ⟨q, -52, nd, rfl, rfl⟩
end Go.Proofs.YtalpbphfmelhhaaGreatDoor

/-! ### The walks of Ldexp: any float and place; a number that fits. -/
namespace Go.Proofs.YtalpbphfmelhhaaGreatDoor
set_option maxRecDepth 100000
open Go.RowKit Go.Shelf Go.Sort
attribute [local go_sem] frombits tobits n64_and n64_or n64_xor n64_andNot
attribute [local go_sem high] un64_not
attribute [local go_sem] k_top k_ortop k_antop k_xortop k_2047 k_frac fnan
attribute [local go_sem high] k_shr52

noncomputable def mulQ (a b : UInt64) (w : World) : UInt64 := Classical.choose (run_fl (P := Tryz.prog) .mul (by simp) 46 a b w)
noncomputable def mulN (a b : UInt64) (w : World) : Nat := Classical.choose (Classical.choose_spec (run_fl (P := Tryz.prog) .mul (by simp) 46 a b w))
theorem run_mulQ (a b : UInt64) (w : World) : (binOp .mul 46 (.float .f64 (fb a)) (.float .f64 (fb b))).run Tryz.prog w = .ok (.float .f64 (fb (mulQ a b w))) (w.drewN (mulN a b w)) :=
  (Classical.choose_spec (Classical.choose_spec (run_fl (P := Tryz.prog) .mul (by simp) 46 a b w))).1
theorem run_mul1 (b : UInt64) (w : World) : (binOp .mul 46 (.float .f64 4607182418800017408) (.float .f64 (fb b))).run Tryz.prog w = .ok (.float .f64 (fb (mulQ 4607182418800017408 b w))) (w.drewN (mulN 4607182418800017408 b w)) := run_mulQ 4607182418800017408 b w
theorem run_mul53 (b : UInt64) (w : World) : (binOp .mul 46 (.float .f64 4368491638549381120) (.float .f64 (fb b))).run Tryz.prog w = .ok (.float .f64 (fb (mulQ 4368491638549381120 b w))) (w.drewN (mulN 4368491638549381120 b w)) := run_mulQ 4368491638549381120 b w
theorem k_clr (x : UInt64) : bits .andNot .u64 (n64 x) 9218868437227405312 = n64 (x &&& ~~~9218868437227405312) := n64_andNot x 9218868437227405312
theorem k_shl52 (x : UInt64) (yk : IntKind) : Op.shift .shl .u64 (n64 x) yk 52 = pure (.int .u64 (n64 (x <<< 52))) := sh64_shl x yk 52 (by omega) (by omega)
attribute [local go_sem] k_clr run_mul1 run_mul53
attribute [local go_sem high] k_shl52
theorem copy0 (y : UInt64) (w : World) : Calls Tryz.prog 161 #[.float .f64 0, .float .f64 (fb y)] w fun e w' => e = .returned (.float .f64 (fb ((0 &&& ~~~topW) ||| (y &&& topW)))) ∧ w' = w := copysign_any 0 y w

def orZ (a : UInt64) (z : Int) : UInt64 := UInt64.ofNat ((bits .or .u64 (n64 a) z) % 18446744073709551616).toNat
theorem wrap_wrap (n : Int) : IntKind.u64.wrap (IntKind.u64.wrap n) = IntKind.u64.wrap n := by rw [IntKind.wrap_u64, IntKind.wrap_u64]; omega
theorem k_orZ (a : UInt64) (z : Int) : bits .or .u64 (n64 a) z = n64 (orZ a z) := by
  unfold orZ
  rw [← wr64]
  show bits .or .u64 (n64 a) z = IntKind.u64.wrap (IntKind.u64.wrap _)
  rw [wrap_wrap]; rfl
section
attribute [local go_sem] k_orZ
set_option maxHeartbeats 4000000 in
theorem ldexp_any (x : UInt64) (e : Int) (_he : -1000000 ≤ e ∧ e ≤ 1000000) (w : World) :
    Calls Tryz.prog 147 #[.float .f64 (fb x), .int .i64 e] w fun v w' => ∃ (r : UInt64) (nd : Nat), v = .returned (.float .f64 (fb r)) ∧ w' = w.drewN nd := by
  go_enter Tryz.func147, Tryz.ntmps147
  go_wp2_with (first
    | (go_at_call 158; refine (isInf_any _ _).mono ?_; rintro e w ⟨rfl, rfl⟩)
    | (go_at_call 159; refine (isNaN_any _ _).mono ?_; rintro e w ⟨rfl, rfl⟩)
    | (go_at_call 160; refine (normalize_any _ _).mono ?_; rintro e w ⟨y, k, nd, rfl, rfl⟩)
    | (go_at_call 161; refine (copy0 _ _).mono ?_; rintro e w ⟨rfl, rfl⟩)
    | (go_at_call 114; refine (inf_pos _).mono ?_; rintro e w ⟨rfl, rfl⟩)
    | (go_at_call 114; refine (inf_neg _).mono ?_; rintro e w ⟨rfl, rfl⟩))
  all_goals (try (go_ret; first | exact ⟨_, 0, rfl, rfl⟩ | exact ⟨_, _, rfl, rfl⟩ | exact ⟨_, _, rfl, World.drewN_drewN _ _ _⟩))
end
end Go.Proofs.YtalpbphfmelhhaaGreatDoor

/-! ### Ldexp of a whole number that fits: the word of m·2^e. -/
namespace Go.Proofs.YtalpbphfmelhhaaGreatDoor
set_option maxRecDepth 100000
open Go.RowKit Go.Shelf Go.Sort

/-- A word below infinity, without a sign: its digits and its place. -/
theorem read_pos (n : Nat) (h : n < 9218868437227405312) : ∃ (m : Nat) (e : Int), Ieee.double.read n = .number false m e ∧ (e + 1074).toNat * 4503599627370496 + m = n ∧ -1074 ≤ e ∧ (4503599627370496 ≤ m ∨ e = -1074) ∧ m < 9007199254740992 ∧ e ≤ 971 := by
  rw [read_dbl, Nat.mod_eq_of_lt (show n < 9223372036854775808 by omega)]
  have hs : (n / 9223372036854775808 % 2 == 1) = false := by rw [Nat.div_eq_of_lt (by omega)]; rfl
  rw [hs]
  by_cases h1 : n < 4503599627370496
  · rw [if_pos h1]
    refine ⟨n, -1074, rfl, ?_, by decide, Or.inr rfl, by omega, by decide⟩
    have : ((-1074 : Int) + 1074).toNat = 0 := rfl
    rw [this]; omega
  · rw [if_neg h1, if_pos h]
    refine ⟨_, _, rfl, ?_, by omega, Or.inl (by omega), by omega, by omega⟩
    have : (-1074 + ((n / 4503599627370496 - 1 : Nat) : Int) + 1074).toNat = n / 4503599627370496 - 1 := by omega
    rw [this]; omega
theorem cmp_nat (a b : Nat) : compare ((a : Nat) : Int) ((b : Nat) : Int) = compare a b := by
  rcases Nat.lt_trichotomy a b with h | h | h
  · rw [Nat.compare_eq_lt.2 h, Std.compare_eq_lt]; omega
  · subst h; simp
  · rw [Nat.compare_eq_gt.2 h, Std.compare_eq_gt]; omega
/-- Words without a sign stand as their numbers do. -/
theorem order_pos (a b : Nat) (ha : a < 9218868437227405312) (hb : b < 9218868437227405312) : Ieee.double.order a b = some (compare a b) := by
  obtain ⟨m, e, h1, h2, h3, h4, h5, h6⟩ := read_pos a ha
  obtain ⟨n, f, k1, k2, k3, k4, k5, k6⟩ := read_pos b hb
  unfold Ieee.Format.order
  rw [h1, k1]
  show some (compare ((m <<< (e - min e f).toNat : Nat) : Int) ((n <<< (f - min e f).toNat : Nat) : Int)) = _
  rw [cmp_nat, Nat.shiftLeft_eq, Nat.shiftLeft_eq]
  congr 1
  rcases Int.lt_trichotomy e f with h | h | h
  · have hd : ∃ d, (f - min e f).toNat = d + 1 := ⟨(f - e).toNat - 1, by omega⟩
    obtain ⟨d, hd⟩ := hd
    rw [show (e - min e f).toNat = 0 by omega, hd]
    have hn : 4503599627370496 ≤ n := by omega
    have hx : m * 2 ^ 0 < n * 2 ^ (d + 1) := by
      have h9 : n * 2 ≤ n * 2 ^ (d + 1) := Nat.mul_le_mul_left _ (by rw [Nat.pow_succ]; have := Nat.two_pow_pos d; omega)
      omega
    rw [Nat.compare_eq_lt.2 hx, Nat.compare_eq_lt.2 (by omega)]
  · subst h
    rw [Int.min_self, Int.sub_self]
    simp only [Int.toNat_zero, Nat.pow_zero, Nat.mul_one]
    rcases Nat.lt_trichotomy m n with h | h | h
    · rw [Nat.compare_eq_lt.2 h, Nat.compare_eq_lt.2 (by omega)]
    · subst h; rw [show a = b by omega, Nat.compare_eq_eq.2 rfl, Nat.compare_eq_eq.2 rfl]
    · rw [Nat.compare_eq_gt.2 h, Nat.compare_eq_gt.2 (by omega)]
  · have hd : ∃ d, (e - min e f).toNat = d + 1 := ⟨(e - f).toNat - 1, by omega⟩
    obtain ⟨d, hd⟩ := hd
    rw [show (f - min e f).toNat = 0 by omega, hd]
    have hn : 4503599627370496 ≤ m := by omega
    have hx : n * 2 ^ 0 < m * 2 ^ (d + 1) := by
      have h9 : m * 2 ≤ m * 2 ^ (d + 1) := Nat.mul_le_mul_left _ (by rw [Nat.pow_succ]; have := Nat.two_pow_pos d; omega)
      omega
    rw [Nat.compare_eq_gt.2 hx, Nat.compare_eq_gt.2 (by omega)]

/-! ### The word of a whole number -/
theorem inR0 {m : Nat} (h0 : m ≠ 0) (h : m < 9007199254740992) : InR m 0 := by
  have := (Nat.log2_lt h0 (k := 53)).2 (Nat.lt_of_lt_of_eq h (by decide))
  exact ⟨h0, h, by decide, by omega⟩
def fOf (m : Nat) : UInt64 := ldW m 0
/-- Its parts. -/
theorem fOf_nat {m : Nat} (h0 : m ≠ 0) (h : m < 9007199254740992) :
    ∃ f, f < 4503599627370496 ∧ (fOf m).toNat = (m.log2 + 1023) * 4503599627370496 + f ∧ m * 2 ^ (52 - m.log2) = 4503599627370496 + f ∧ m.log2 ≤ 52 := by
  have hi := inR0 h0 h
  have hl := hi.log
  have hk : upK m 0 = 52 - m.log2 := by unfold upK; omega
  obtain ⟨h1, h2, h3, h4⟩ := hi.up
  have hld := hi.ld.1
  rw [hk] at h1 h2 hld
  have h5 : 4503599627370496 ≤ m * 2 ^ (52 - m.log2) := by omega
  refine ⟨m * 2 ^ (52 - m.log2) - 4503599627370496, by omega, ?_, by omega, hl⟩
  unfold fOf
  rw [hi.ldW_nat, hld]
  have : ((0 : Int) - ((52 - m.log2 : Nat) : Int) + 1074).toNat = m.log2 + 1022 := by omega
  rw [this]
  omega
end Go.Proofs.YtalpbphfmelhhaaGreatDoor

/-! ### Ldexp of a whole number that fits: the walk. -/
namespace Go.Proofs.YtalpbphfmelhhaaGreatDoor
set_option maxRecDepth 100000
open Go.RowKit Go.Shelf Go.Sort

theorem clr_nat (x : UInt64) (h : x.toNat < 9223372036854775808) : (x &&& ~~~9218868437227405312).toNat = x.toNat % 4503599627370496 := by
  rw [UInt64.toNat_and]
  have e2 : (~~~(9218868437227405312 : UInt64)).toNat = 2 ^ 63 ||| (2 ^ 52 - 1) := by decide
  rw [e2, Nat.and_or_distrib_left, Nat.and_comm x.toNat (2 ^ 63), and_top_low 63 _ (by omega), Nat.zero_or, Nat.and_two_pow_sub_one_eq_mod]
theorem put_nat (x : UInt64) (F : Nat) (h : x.toNat < 9223372036854775808) (hF : F < 2048) :
    ((x &&& ~~~(9218868437227405312 : UInt64)) ||| (UInt64.ofNat F <<< (52 : UInt64))).toNat = F * 4503599627370496 + x.toNat % 4503599627370496 := by
  have e : ((52 : UInt64).toNat % 64) = 52 := rfl
  rw [UInt64.toNat_or, clr_nat x h, UInt64.toNat_shiftLeft, UInt64.toNat_ofNat', e, Nat.mod_eq_of_lt (show F < 2 ^ 64 by omega), Nat.shiftLeft_eq, Nat.mod_eq_of_lt (show F * 2 ^ 52 < 2 ^ 64 by omega)]
  have h2 := Nat.two_pow_add_eq_or_of_lt (i := 52) (b := x.toNat % 4503599627370496) (Nat.mod_lt _ (by decide)) F
  rw [Nat.or_comm, Nat.mul_comm F, ← h2]
theorem read_norm (F f : Nat) (hF1 : 1 ≤ F) (hF : F < 2047) (hf : f < 4503599627370496) :
    Ieee.double.read (F * 4503599627370496 + f) = .number false (4503599627370496 + f) (-1074 + ((F - 1 : Nat) : Int)) := by
  rw [read_dbl]
  have h1 : (F * 4503599627370496 + f) % 9223372036854775808 = F * 4503599627370496 + f := Nat.mod_eq_of_lt (by omega)
  have hs : ((F * 4503599627370496 + f) / 9223372036854775808 % 2 == 1) = false := by rw [Nat.div_eq_of_lt (by omega)]; rfl
  have h2 : (F * 4503599627370496 + f) % 4503599627370496 = f := by omega
  have h3 : (F * 4503599627370496 + f) / 4503599627370496 = F := by omega
  rw [h1, hs, if_neg (by omega), if_pos (by omega), h2, h3]

/-- 1.0 times a word that is the number's: the number. -/
theorem mul_one_fit (m : Nat) (e : Int) (h : InR m e) (L f F : Nat) (hL : m.log2 = L) (hm : m * 2 ^ (52 - L) = 4503599627370496 + f) (hf : f < 4503599627370496) (hl : L ≤ 52)
    (hF : (F : Int) = e + L + 1023) (hF1 : 1 ≤ F) (hF2 : F < 2047) :
    floatBits .mul .f64 4607182418800017408 (F * 4503599627370496 + f) = some (ldN m e) := by
  unfold floatBits
  show Ieee.double.mul _ _ = _
  unfold Ieee.Format.mul
  have r1 : Ieee.double.read 4607182418800017408 = .number false 4503599627370496 (-52) := by decide +kernel
  rw [r1, read_norm F f hF1 hF2 hf]
  show some (Ieee.double.nearest (false ^^ false) _ _) = _
  congr 1
  unfold ldN
  have hu := h.up
  have hk : upK m e ≤ 52 - m.log2 := Nat.min_le_left _ _
  have he1 : -52 + (-1074 + ((F - 1 : Nat) : Int)) ≤ e - upK m e := by omega
  have he2 : e - (upK m e : Int) ≤ e := by omega
  rw [show (false ^^ false) = false from rfl,
    nearest_exact false _ _ (m * 2 ^ upK m e) (e - upK m e) h.up0 hu.1 hu.2.2.1 hu.2.1 (fun _ => ?_) (fun hle => ?_),
    nearest_exact false m e (m * 2 ^ upK m e) (e - upK m e) h.up0 hu.1 hu.2.2.1 hu.2.1 (fun hle => ?_) (fun _ => ?_)]
  · have : upK m e = 0 := by omega
    rw [this]; simp
  · congr 2; omega
  · rw [← hm, Nat.mul_comm, Nat.mul_assoc, Nat.mul_assoc, ← Nat.pow_add, show 4503599627370496 = 2 ^ 52 from rfl, ← Nat.pow_add]
    congr 2
    omega
  · exfalso; omega
theorem mul_small_fit (m : Nat) (e : Int) (h : InR m e) (L f F : Nat) (hL : m.log2 = L) (hm : m * 2 ^ (52 - L) = 4503599627370496 + f) (hf : f < 4503599627370496) (hl : L ≤ 52)
    (hF : (F : Int) = e + L + 53 + 1023) (hF1 : 1 ≤ F) (hF2 : F < 2047) :
    floatBits .mul .f64 4368491638549381120 (F * 4503599627370496 + f) = some (ldN m e) := by
  unfold floatBits
  show Ieee.double.mul _ _ = _
  unfold Ieee.Format.mul
  have r1 : Ieee.double.read 4368491638549381120 = .number false 4503599627370496 (-105) := by decide +kernel
  rw [r1, read_norm F f hF1 hF2 hf]
  show some (Ieee.double.nearest (false ^^ false) _ _) = _
  congr 1
  unfold ldN
  have hu := h.up
  have hk : upK m e ≤ 52 - m.log2 := Nat.min_le_left _ _
  have he1 : -105 + (-1074 + ((F - 1 : Nat) : Int)) ≤ e - upK m e := by omega
  have he2 : e - (upK m e : Int) ≤ e := by omega
  rw [show (false ^^ false) = false from rfl,
    nearest_exact false _ _ (m * 2 ^ upK m e) (e - upK m e) h.up0 hu.1 hu.2.2.1 hu.2.1 (fun _ => ?_) (fun hle => ?_),
    nearest_exact false m e (m * 2 ^ upK m e) (e - upK m e) h.up0 hu.1 hu.2.2.1 hu.2.1 (fun hle => ?_) (fun _ => ?_)]
  · have : upK m e = 0 := by omega
    rw [this]; simp
  · congr 2; omega
  · rw [← hm, Nat.mul_comm, Nat.mul_assoc, Nat.mul_assoc, ← Nat.pow_add, show 4503599627370496 = 2 ^ 52 from rfl, ← Nat.pow_add]
    congr 2
    omega
  · exfalso; omega
end Go.Proofs.YtalpbphfmelhhaaGreatDoor

/-! ### Ldexp of a whole number that fits: the walk. -/
namespace Go.Proofs.YtalpbphfmelhhaaGreatDoor
set_option maxRecDepth 100000
open Go.RowKit Go.Shelf Go.Sort
attribute [local go_sem] frombits tobits n64_and n64_or n64_xor n64_andNot k_clr
attribute [local go_sem high] un64_not
attribute [local go_sem high] k_shr52 k_shl52

theorem and_2047 (c : Nat) (h : c < 2048) : bits .and .i64 (c : Int) 2047 = (c : Int) := by
  have hk : ∀ n : Int, 0 ≤ n → n < 2048 → IntKind.i64.wrap n = n := fun n h0 h1 => by
    have hm : n % 18446744073709551616 = n := Int.emod_eq_of_lt h0 (by omega)
    simp only [IntKind.wrap, IntKind.bits, IntKind.signed]
    simp [hm]
    omega
  have h1 : (BitVec.ofInt 64 (c : Int)).toNat = c := by
    rw [BitVec.ofInt_natCast, BitVec.toNat_ofNat]; exact Nat.mod_eq_of_lt (by omega)
  have h2 : (BitVec.ofInt 64 2047).toNat = 2 ^ 11 - 1 := by decide
  show IntKind.i64.wrap ((BitVec.ofInt 64 (c : Int) &&& BitVec.ofInt 64 2047).toNat : Int) = _
  rw [BitVec.toNat_and, h1, h2, Nat.and_two_pow_sub_one_eq_mod, Nat.mod_eq_of_lt (by omega), hk _ (by omega) (by omega)]

theorem w64id (z : Int) (h0 : -9223372036854775808 ≤ z) (h1 : z ≤ 9223372036854775807) : wrap64 z = z := by unfold wrap64; omega
theorem wrap_shl52 (G : UInt64) : IntKind.u64.wrap (n64 G * 4503599627370496) = n64 (G <<< (52 : UInt64)) := by
  have h := n64_shl G 52 (by omega)
  have e : (2 : Int) ^ 52 = 4503599627370496 := by decide +kernel
  have e2 : UInt64.ofNat 52 = 52 := by decide
  rw [e, e2] at h; exact h
set_option maxHeartbeats 2000000 in
theorem ldexp_fits (m : Nat) (e : Int) (h : InR m e) (w : World) :
    Calls Tryz.prog 147 #[.float .f64 (fb (fOf m)), .int .i64 e] w fun v w' => v = .returned (.float .f64 (fb (ldW m e))) ∧ w' = w := by
  obtain ⟨f, hf, hX, hm, hl⟩ := fOf_nat h.ne h.lt
  obtain ⟨L, hL⟩ : ∃ L, m.log2 = L := ⟨_, rfl⟩
  rw [hL] at hX hm hl
  have hlo := h.lo
  have hhi := h.hi
  rw [hL] at hhi
  have hn0 := h.ld.2
  have hw := h.ldW_nat
  have X63 : (fOf m).toNat < 9218868437227405312 := by omega
  -- tests
  have q1 : (FloatKind.f64.format.order (fb (fOf m)) 0 == some Ordering.eq) = false := by
    show (Ieee.double.order _ _ == _) = _
    rw [order_pos (fb (fOf m)) 0 X63 (by decide), show compare (fb (fOf m)) 0 = .gt from Nat.compare_eq_gt.2 (show 0 < (fOf m).toNat by omega)]; rfl
  have habs : fOf m &&& ~~~topW = fOf m := by
    apply UInt64.toNat_inj.1; rw [notop_nat, Nat.mod_eq_of_lt (by omega)]
  have q2 : infB (fOf m) = false := by
    unfold infB; rw [habs]
    show (Ieee.double.order _ _ == _) = _
    rw [order_pos (fb (fOf m)) 9218868437227405311 X63 (by decide)]; unfold fb
    cases hc : compare (fOf m).toNat 9218868437227405311 with
    | lt => rfl
    | eq => rfl
    | gt => have := Nat.compare_eq_gt.1 hc; omega
  have q3 : nanB (fOf m) = false := by unfold nanB; simp; omega
  have q4 : subB (fOf m) = false := by
    unfold subB; rw [habs]
    show (Ieee.double.order _ _ == _) = _
    rw [order_pos (fb (fOf m)) 4503599627370496 X63 (by decide)]; unfold fb
    cases hc : compare (fOf m).toNat 4503599627370496 with
    | lt => have := Nat.compare_eq_lt.1 hc; omega
    | eq => rfl
    | gt => rfl
  have Q4 := Lib.hid q4; clear q4
  obtain ⟨c, hc⟩ : ∃ c, c = L + 1023 := ⟨_, rfl⟩
  have h1 : n64 (fOf m >>> 52) = (c : Int) := by
    unfold n64; rw [UInt64.toNat_shiftRight]
    have e1 : (52 : UInt64).toNat % 64 = 52 := rfl
    rw [e1, Nat.shiftRight_eq_div_pow, hX, hc]; congr 1; omega
  have HH1 := Lib.hid h1; clear h1
  have hc48 : c < 2048 := by rw [hc]; exact Nat.lt_of_le_of_lt (Nat.add_le_add_right hl 1023) (by decide)
  have h4' : (c : Int) - 1023 = (L : Int) := by omega
  obtain ⟨E, hE⟩ : ∃ E, E = e + (L : Int) := ⟨_, rfl⟩
  have t1 : decide (E < -1075) = false := by simp; omega
  have t2 : decide (1023 < E) = false := by simp; omega
  have x63 : (fOf m).toNat < 9223372036854775808 := by omega
  have hmf : (fOf m).toNat % 4503599627370496 = f := by rw [hX]; omega
  have e1 : -9223372036854775808 ≤ (L : Int) := by omega
  have e2 : (L : Int) ≤ 9223372036854775807 := by omega
  have e3 : -9223372036854775808 ≤ e := by omega
  have e4 : e ≤ 9223372036854775807 := by omega
  have e5 : -9223372036854775808 ≤ E := by omega
  have e6 : E ≤ 9223372036854775807 := by omega
  have H2 := Lib.hid (w64id (c : Int) (by omega) (by omega))
  have H3 := Lib.hid (and_2047 c hc48)
  have H4 : Hid (wrap64 ((c : Int) - 1023) = (L : Int)) := by rw [h4']; exact w64id _ e1 e2
  have H5 : Hid (wrap64 (e + (L : Int)) = E) := by rw [← hE]; exact w64id _ e5 e6
  have H6 := Lib.hid (w64id e e3 e4)
  by_cases hs : E < -1022
  · have t3 : decide (E < -1022) = true := by simpa using hs
    obtain ⟨F, hF⟩ : ∃ F : Nat, (F : Int) = E + 53 + 1023 := ⟨(E + 53 + 1023).toNat, by omega⟩
    have f1 : -9223372036854775808 ≤ E + 53 := by omega
    have f2 : E + 53 ≤ 9223372036854775807 := by omega
    have f3 : -9223372036854775808 ≤ (F : Int) := by omega
    have f4 : (F : Int) ≤ 9223372036854775807 := by omega
    have f5 : F < 18446744073709551616 := by omega
    have f6 : F < 2048 := by omega
    have hfl := mul_small_fit m e h L f F hL hm hf hl (by omega) (by omega) (by omega)
    have h10 : IntKind.u64.wrap (F : Int) = n64 (UInt64.ofNat F) := by rw [IntKind.wrap_u64, n64_of _ f5]; clear hfl; omega
    have hput := put_nat (fOf m) F x63 f6
    rw [hmf] at hput
    have hmul : ∀ W, (binOp .mul 46 (.float .f64 4368491638549381120) (.float .f64 (fb ((fOf m &&& ~~~(9218868437227405312 : UInt64)) ||| (UInt64.ofNat F <<< (52 : UInt64)))))).run Tryz.prog W = .ok (.float .f64 (fb (ldW m e))) W := fun W => by
      unfold fb
      rw [hput, hw]
      exact run_float_arith W .mul 46 .f64 _ _ _ hfl
    have h9 := w64id (F : Int) f3 f4
    rw [hF] at h9
    have h9b : wrap64 (E + 53 + 1023) = (F : Int) := by rw [h9, hF]
    have h12 := w64id (F : Int) f3 f4
    have h8 := w64id (E + 53) f1 f2
    have h9c : E + 53 + 1023 = (F : Int) := hF.symm
    clear hfl hput hmf hX hm hl hlo hhi hn0 hw X63 x63 habs hE hF hs hc hL h hf h9 f1 f2 f3 f4 f5 f6 e1 e2 e3 e4
    have h3 := H3.out; have h2 := H2.out; have h4 := H4.out; have h5 := H5.out; have h6 := H6.out
    have h11 := wrap_shl52 (UInt64.ofNat F)
    generalize UInt64.ofNat F = G at *
    have h1 := HH1.out
    go_enter Tryz.func147, Tryz.ntmps147
    go_wp2_with (first
      | (go_at_call 158; refine (isInf_any _ _).mono ?_; rintro e w ⟨rfl, rfl⟩)
      | (go_at_call 159; refine (isNaN_any _ _).mono ?_; rintro e w ⟨rfl, rfl⟩)
      | (go_at_call 160; refine (normalize_big _ Q4.out _).mono ?_; rintro e w ⟨rfl, rfl⟩))
    go_ret
    exact ⟨rfl, rfl⟩
  · have t3 : decide (E < -1022) = false := by simpa using hs
    obtain ⟨F, hF⟩ : ∃ F : Nat, (F : Int) = E + 1023 := ⟨(E + 1023).toNat, by omega⟩
    have f1 : -9223372036854775808 ≤ E + 53 := by omega
    have f2 : E + 53 ≤ 9223372036854775807 := by omega
    have f3 : -9223372036854775808 ≤ (F : Int) := by omega
    have f4 : (F : Int) ≤ 9223372036854775807 := by omega
    have f5 : F < 18446744073709551616 := by omega
    have f6 : F < 2048 := by omega
    have hfl := mul_one_fit m e h L f F hL hm hf hl (by omega) (by omega) (by omega)
    have h10 : IntKind.u64.wrap (F : Int) = n64 (UInt64.ofNat F) := by rw [IntKind.wrap_u64, n64_of _ f5]; clear hfl; omega
    have hput := put_nat (fOf m) F x63 f6
    rw [hmf] at hput
    have hmul : ∀ W, (binOp .mul 46 (.float .f64 4607182418800017408) (.float .f64 (fb ((fOf m &&& ~~~(9218868437227405312 : UInt64)) ||| (UInt64.ofNat F <<< (52 : UInt64)))))).run Tryz.prog W = .ok (.float .f64 (fb (ldW m e))) W := fun W => by
      unfold fb
      rw [hput, hw]
      exact run_float_arith W .mul 46 .f64 _ _ _ hfl
    have h9 := w64id (F : Int) f3 f4
    rw [hF] at h9
    have h9b : wrap64 (E + 1023) = (F : Int) := by rw [h9, hF]
    have h12 := w64id (F : Int) f3 f4
    have h9c : E + 1023 = (F : Int) := hF.symm
    clear hfl hput hmf hX hm hl hlo hhi hn0 hw X63 x63 habs hE hF hs hc hL h hf h9 f1 f2 f3 f4 f5 f6 e1 e2 e3 e4
    have h3 := H3.out; have h2 := H2.out; have h4 := H4.out; have h5 := H5.out; have h6 := H6.out
    have h11 := wrap_shl52 (UInt64.ofNat F)
    generalize UInt64.ofNat F = G at *
    have h1 := HH1.out
    go_enter Tryz.func147, Tryz.ntmps147
    go_wp2_with (first
      | (go_at_call 158; refine (isInf_any _ _).mono ?_; rintro e w ⟨rfl, rfl⟩)
      | (go_at_call 159; refine (isNaN_any _ _).mono ?_; rintro e w ⟨rfl, rfl⟩)
      | (go_at_call 160; refine (normalize_big _ Q4.out _).mono ?_; rintro e w ⟨rfl, rfl⟩))
    go_ret
    exact ⟨rfl, rfl⟩
end Go.Proofs.YtalpbphfmelhhaaGreatDoor

/-! ### Ldexp; the texts' parts: cut, digits, small, and the reference's digits and number. -/
/-! ### Ldexp; the texts' parts: cut, digits, small, and the reference's digits and number. -/
namespace Go.Proofs.YtalpbphfmelhhaaGreatDoor
set_option maxRecDepth 100000
open Go.RowKit Go.Shelf Go.Sort

set_option maxHeartbeats 400000 in
theorem Ldexp_any (x : UInt64) (e : Int) (he : -1000000 ≤ e ∧ e ≤ 1000000) (w : World) :
    Calls Tryz.prog 117 #[.float .f64 (fb x), .int .i64 e] w fun v w' => ∃ (r : UInt64) (nd : Nat), v = .returned (.float .f64 (fb r)) ∧ w' = w.drewN nd := by
  have HE := Lib.hid he; clear he
  go_enter Tryz.func117, Tryz.ntmps117
  go_wp2_with (go_at_call 147; refine (ldexp_any _ _ HE.out _).mono ?_; rintro v w' ⟨r, nd, rfl, rfl⟩)
  go_ret
  exact ⟨r, nd, rfl, rfl⟩

set_option maxHeartbeats 400000 in
theorem Ldexp_fits (m : Nat) (e : Int) (h : InR m e) (w : World) :
    Calls Tryz.prog 117 #[.float .f64 (fb (fOf m)), .int .i64 e] w fun v w' => v = .returned (.float .f64 (fb (ldW m e))) ∧ w' = w := by
  go_enter Tryz.func117, Tryz.ntmps117
  go_wp2_with (go_at_call 147; refine (ldexp_fits _ _ h _).mono ?_; rintro v w' ⟨rfl, rfl⟩)
  go_ret
  exact ⟨rfl, rfl⟩

/-! ### Texts -/
def isDig (c : UInt8) : Bool := decide (48 ≤ c ∧ c ≤ 57)
/-- A number as it is written. -/
def digB (l : List UInt8) : Bool := !(l.isEmpty || (l.head? == some 48 && decide (1 < l.length))) && l.all isDig
/-- The number that digits write. -/
def decNum (l : List UInt8) : Nat := l.foldl (fun n c => n * 10 + (c.toNat - 48)) 0

/-- The byte at a place. -/
def bAt (l : List UInt8) (k : Nat) : UInt8 := l.getD k 0
theorem bs_get (l : List UInt8) (k : Nat) (h : k < (bs l).size) : (bs l)[k] = bAt l k := by
  have hk : k < l.length := by rwa [bs_size] at h
  show (bs l).data[k] = _
  simp [bs, bAt, hk]
theorem bAt_mem (l : List UInt8) (k : Nat) (h : k < l.length) : bAt l k ∈ l := by simp [bAt, h]
theorem mem_bAt (l : List UInt8) (c : UInt8) (h : c ∈ l) : ∃ k, k < l.length ∧ bAt l k = c := by
  obtain ⟨k, hk, e⟩ := List.mem_iff_getElem.1 h
  exact ⟨k, hk, by simp [bAt, hk, e]⟩
theorem all_bAt (l : List UInt8) (p : UInt8 → Bool) : l.all p = true ↔ ∀ k, k < l.length → p (bAt l k) = true := by
  rw [List.all_eq_true]
  constructor
  · intro h k hk; exact h _ (bAt_mem l k hk)
  · intro h c hc
    obtain ⟨k, hk, rfl⟩ := mem_bAt l c hc
    exact h k hk
theorem dig_tests (c : UInt8) : (decide ((c.toNat : Int) < 48) = true ∧ isDig c = false) ∨ (decide ((c.toNat : Int) < 48) = false ∧ decide (57 < (c.toNat : Int)) = true ∧ isDig c = false) ∨ (decide ((c.toNat : Int) < 48) = false ∧ decide (57 < (c.toNat : Int)) = false ∧ isDig c = true) := by
  unfold isDig
  have e1 : (48 ≤ c ∧ c ≤ 57) ↔ (48 ≤ c.toNat ∧ c.toNat ≤ 57) := by
    rw [UInt8.le_iff_toNat_le, UInt8.le_iff_toNat_le]; exact Iff.rfl
  simp only [e1, decide_eq_true_eq, decide_eq_false_iff_not]
  omega
section
attribute [local go_sem] bs_size bs_get bs_toList
set_option maxHeartbeats 1000000 in
theorem digits_any (l : List UInt8) (hl : l.length ≤ 4611686018427387904) (w : World) :
    Calls Tryz.prog 144 #[.string (bs l)] w fun e w' => e = .returned (.bool (digB l)) ∧ w' = w := by
  by_cases h0 : l = []
  · subst h0
    go_enter Tryz.func144, Tryz.ntmps144
    go_wp2
    go_ret
    exact ⟨rfl, rfl⟩
  · obtain ⟨n, hn⟩ : ∃ n, l.length = n := ⟨_, rfl⟩
    have hn0 : 0 < n := by rw [← hn]; exact List.length_pos_iff.2 h0
    have hE : l.isEmpty = false := by simpa using h0
    have hH : l.head? = some (bAt l 0) := by
      cases l with
      | nil => exact absurd rfl h0
      | cons a t => rfl
    have HD : Hid (digB l = (!(decide (bAt l 0 = 48) && decide (1 < n)) && l.all isDig)) := by
      unfold Hid digB
      rw [hE, hH, hn, Bool.false_or]; rfl
    have HA := Lib.hid (all_bAt l isDig)
    rw [hn] at hl HA
    clear hH
    have hz : (((bAt l 0).toNat : Int) == 48) = decide (bAt l 0 = 48) := by
      rw [Bool.eq_iff_iff]; simp; rw [← UInt8.toNat_inj, show (48 : UInt8).toNat = 48 from rfl]; omega
    by_cases hb : (decide (bAt l 0 = 48) && decide (1 < n)) = true
    · have HR : Hid (digB l = false) := by rw [HD.out, hb]; rfl
      obtain ⟨b1, b2⟩ := Bool.and_eq_true_iff.1 hb
      rw [b1] at hz
      have b2' : decide (1 < (n : Int)) = true := by simp at b2 ⊢; omega
      clear b1 hb h0
      go_enter Tryz.func144, Tryz.ntmps144
      go_wp2
      go_ret
      exact ⟨by rw [HR.out]; rfl, rfl⟩
    · have HR : Hid (digB l = l.all isDig) := by rw [HD.out, Bool.eq_false_iff.2 hb]; exact Bool.true_and _
      cases b1 : decide (bAt l 0 = 48) with
      | false =>
        rw [b1] at hz
        clear b1 hb h0
        go_enter Tryz.func144, Tryz.ntmps144
        go_wp2_with fail
        go_loopw [3, 18] (fun _ i wr => ∃ k : Nat, i = .int .i64 k ∧ k ≤ n ∧ (∀ j, j < k → isDig (bAt l j) = true) ∧ wr = w) (fun _ i _ => n - (intOf i).toNat)
        case atStart => exact ⟨0, rfl, Nat.zero_le _, fun j hj => absurd hj (Nat.not_lt_zero _), rfl⟩
        case round =>
          obtain ⟨k, rfl, hk, hd, rfl⟩ := hrel
          by_cases hlt : k < n
          · have Hd := Lib.hid hd; clear hd
            have hkl : k < l.length := by rw [hn]; exact hlt
            have hc := dig_tests (bAt l k)
            have hkk : Hid (isDig (bAt l k) = true → ∀ j, j < k + 1 → isDig (bAt l j) = true) := fun h j hj => by
              rcases Nat.lt_or_ge j k with h' | h'
              · exact Hd.out j h'
              · rw [show j = k by omega]; exact h
            have hbad : Hid (isDig (bAt l k) = false → l.all isDig = false) := fun h => by
              cases ha : l.all isDig with
              | false => rfl
              | true => have := HA.out.1 ha k hlt; rw [h] at this; cases this
            obtain ⟨c, hcc⟩ : ∃ c, bAt l k = c := ⟨_, rfl⟩
            rw [hcc] at hc hkk hbad
            rcases hc with ⟨t1, hv⟩ | ⟨t1, t2, hv⟩ | ⟨t1, t2, hv⟩
            · have Hv := Lib.hid (hbad.out hv)
              clear hv
              go_wp2
              go_ret
              exact ⟨by rw [HR.out, Hv.out]; rfl, rfl⟩
            · have Hv := Lib.hid (hbad.out hv)
              clear hv
              go_wp2
              go_ret
              exact ⟨by rw [HR.out, Hv.out]; rfl, rfl⟩
            · have Hv := Lib.hid (hkk.out hv)
              clear hv
              go_wp2
              go_roundw
              case rel => exact ⟨k + 1, by go_num, by omega, Hv.out, trivial⟩
              case measure => simp [intOf]; omega
          · have Hv : Hid (l.all isDig = true) := HA.out.2 (fun j hj => hd j (by omega))
            clear hd
            go_wp2
            go_ret
            exact ⟨by rw [HR.out, Hv.out]; rfl, rfl⟩
      | true =>
        have b2 : decide (1 < (n : Int)) = false := by
          rw [b1, Bool.true_and] at hb; simp at hb ⊢; omega
        rw [b1] at hz
        clear b1 hb h0
        go_enter Tryz.func144, Tryz.ntmps144
        go_wp2_with fail
        go_loopw [3, 18] (fun _ i wr => ∃ k : Nat, i = .int .i64 k ∧ k ≤ n ∧ (∀ j, j < k → isDig (bAt l j) = true) ∧ wr = w) (fun _ i _ => n - (intOf i).toNat)
        case atStart => exact ⟨0, rfl, Nat.zero_le _, fun j hj => absurd hj (Nat.not_lt_zero _), rfl⟩
        case round =>
          obtain ⟨k, rfl, hk, hd, rfl⟩ := hrel
          by_cases hlt : k < n
          · have Hd := Lib.hid hd; clear hd
            have hkl : k < l.length := by rw [hn]; exact hlt
            have hc := dig_tests (bAt l k)
            have hkk : Hid (isDig (bAt l k) = true → ∀ j, j < k + 1 → isDig (bAt l j) = true) := fun h j hj => by
              rcases Nat.lt_or_ge j k with h' | h'
              · exact Hd.out j h'
              · rw [show j = k by omega]; exact h
            have hbad : Hid (isDig (bAt l k) = false → l.all isDig = false) := fun h => by
              cases ha : l.all isDig with
              | false => rfl
              | true => have := HA.out.1 ha k hlt; rw [h] at this; cases this
            obtain ⟨c, hcc⟩ : ∃ c, bAt l k = c := ⟨_, rfl⟩
            rw [hcc] at hc hkk hbad
            rcases hc with ⟨t1, hv⟩ | ⟨t1, t2, hv⟩ | ⟨t1, t2, hv⟩
            · have Hv := Lib.hid (hbad.out hv)
              clear hv
              go_wp2
              go_ret
              exact ⟨by rw [HR.out, Hv.out]; rfl, rfl⟩
            · have Hv := Lib.hid (hbad.out hv)
              clear hv
              go_wp2
              go_ret
              exact ⟨by rw [HR.out, Hv.out]; rfl, rfl⟩
            · have Hv := Lib.hid (hkk.out hv)
              clear hv
              go_wp2
              go_roundw
              case rel => exact ⟨k + 1, by go_num, by omega, Hv.out, trivial⟩
              case measure => simp [intOf]; omega
          · have Hv : Hid (l.all isDig = true) := HA.out.2 (fun j hj => hd j (by omega))
            clear hd
            go_wp2
            go_ret
            exact ⟨by rw [HR.out, Hv.out]; rfl, rfl⟩
end
end Go.Proofs.YtalpbphfmelhhaaGreatDoor

/-! ### The texts' parts: small, cut, and the reference's digits and number. -/
namespace Go.Proofs.YtalpbphfmelhhaaGreatDoor
set_option maxRecDepth 100000
open Go.RowKit Go.Shelf Go.Sort
/-- The number that the first k digits write. -/
def decTo (l : List UInt8) : Nat → Nat
  | 0 => 0
  | k + 1 => decTo l k * 10 + ((bAt l k).toNat - 48)
theorem decTo_bd (l : List UInt8) (k : Nat) (h : ∀ j, j < k → isDig (bAt l j) = true) : decTo l k < 10 ^ k := by
  induction k with
  | zero => simp [decTo]
  | succ k ih =>
    have := ih (fun j hj => h j (by omega))
    have hd := h k (by omega)
    have hc : (bAt l k).toNat - 48 ≤ 9 := by
      unfold isDig at hd
      have := of_decide_eq_true hd
      rw [UInt8.le_iff_toNat_le, UInt8.le_iff_toNat_le] at this
      have e1 : (57 : UInt8).toNat = 57 := rfl
      omega
    show decTo l k * 10 + _ < _
    rw [Nat.pow_succ]; omega
theorem dig_nat {c : UInt8} (h : isDig c = true) : 48 ≤ c.toNat ∧ c.toNat ≤ 57 := by
  unfold isDig at h
  have := of_decide_eq_true h
  rw [UInt8.le_iff_toNat_le, UInt8.le_iff_toNat_le] at this
  exact this
attribute [local go_sem] bs_size bs_get bs_toList

set_option maxHeartbeats 1000000 in
theorem small_any (l : List UInt8) (most : Nat) (hm : most ≤ 17) (hl : l.length ≤ 4611686018427387904) (hd : l.all isDig = true) (w : World) :
    Calls Tryz.prog 145 #[.string (bs l), .int .i64 (most : Int)] w fun e w' => e = .returned (.tuple (if l.length ≤ most then #[.int .i64 (decTo l l.length : Int), .bool true] else #[.int .i64 0, .bool false])) ∧ w' = w := by
  obtain ⟨n, hn⟩ : ∃ n, l.length = n := ⟨_, rfl⟩
  have hA := (all_bAt l isDig).1 hd
  rw [hn] at hl hA ⊢
  clear hd
  by_cases hle : n ≤ most
  · rw [if_pos hle]
    have HA := Lib.hid hA; clear hA
    have q1 : decide ((most : Int) < (n : Int)) = false := by simp; omega
    go_enter Tryz.func145, Tryz.ntmps145
    go_wp2_with fail
    go_loopw [6, 7, 14] (fun a _ i wr => ∃ k : Nat, i = .int .i64 k ∧ k ≤ n ∧ a = .int .i64 (decTo l k : Int) ∧ wr = w) (fun _ _ i _ => n - (intOf i).toNat)
    case atStart => exact ⟨0, rfl, Nat.zero_le _, rfl, rfl⟩
    case round =>
      obtain ⟨k, rfl, hk, rfl, rfl⟩ := hrel
      by_cases hlt : k < n
      · have hkl : k < l.length := by rw [hn]; exact hlt
        have hb := decTo_bd l k (fun j hj => HA.out j (by omega))
        have hb17 : 10 ^ k ≤ 10 ^ 17 := Nat.pow_le_pow_right (by decide) (by omega)
        have hb3 : decTo l k < 100000000000000000 := Nat.lt_of_lt_of_le hb hb17
        have HS : Hid (decTo l (k + 1) = decTo l k * 10 + ((bAt l k).toNat - 48)) := rfl
        have hc := dig_nat (HA.out k hlt)
        clear hb hb17
        generalize decTo l k = a at *
        obtain ⟨d, hd⟩ : ∃ d : Nat, (bAt l k).toNat = 48 + d := ⟨(bAt l k).toNat - 48, by omega⟩
        have hd9 : d ≤ 9 := by omega
        have HS2 : Hid (decTo l (k + 1) = a * 10 + d) := by rw [HS.out, hd]; show _ = _; omega
        clear hc
        go_wp2_with fail
        go_roundw
        case rel => exact ⟨k + 1, by go_num, by omega, by rw [HS2.out]; congr 1 <;> omega, trivial⟩
        case measure => simp [intOf]; omega
      · have hkn : k = n := by omega
        subst hkn
        go_wp2
        go_ret2
        exact ⟨rfl, rfl⟩
  · rw [if_neg hle]
    have q1 : decide ((most : Int) < (n : Int)) = true := by simp; omega
    clear hA
    go_enter Tryz.func145, Tryz.ntmps145
    go_wp2
    go_ret2
    exact ⟨rfl, rfl⟩
end Go.Proofs.YtalpbphfmelhhaaGreatDoor

/-! ### The texts' parts: cut, and the reference's digits and number. -/
namespace Go.Proofs.YtalpbphfmelhhaaGreatDoor
set_option maxRecDepth 100000
open Go.RowKit Go.Shelf Go.Sort
attribute [local go_sem] bs_size bs_get bs_toList

set_option maxHeartbeats 1000000 in
theorem number_any (l : List UInt8) (hl : l.length ≤ 17) (hd : l.all isDig = true) (w : World) :
    Calls Tryz.prog 116 #[.string (bs l)] w fun e w' => e = .returned (.int .i64 (decTo l l.length : Int)) ∧ w' = w := by
  obtain ⟨n, hn⟩ : ∃ n, l.length = n := ⟨_, rfl⟩
  have hA := (all_bAt l isDig).1 hd
  rw [hn] at hl hA ⊢
  clear hd
  have HA := Lib.hid hA; clear hA
  go_enter Tryz.func116, Tryz.ntmps116
  go_wp2_with fail
  go_loopw [3, 4] (fun a i wr => ∃ k : Nat, i = .int .i64 k ∧ k ≤ n ∧ a = .int .i64 (decTo l k : Int) ∧ wr = w) (fun _ i _ => n - (intOf i).toNat)
  case atStart => exact ⟨0, rfl, Nat.zero_le _, rfl, rfl⟩
  case round =>
    obtain ⟨k, rfl, hk, rfl, rfl⟩ := hrel
    by_cases hlt : k < n
    · have hkl : k < l.length := by rw [hn]; exact hlt
      have hb := decTo_bd l k (fun j hj => HA.out j (by omega))
      have hb17 : 10 ^ k ≤ 10 ^ 17 := Nat.pow_le_pow_right (by decide) (by omega)
      have hb3 : decTo l k < 100000000000000000 := Nat.lt_of_lt_of_le hb hb17
      have HS : Hid (decTo l (k + 1) = decTo l k * 10 + ((bAt l k).toNat - 48)) := rfl
      have hc := dig_nat (HA.out k hlt)
      clear hb hb17
      generalize decTo l k = a at *
      obtain ⟨d, hd⟩ : ∃ d : Nat, (bAt l k).toNat = 48 + d := ⟨(bAt l k).toNat - 48, by omega⟩
      have hd9 : d ≤ 9 := by omega
      have HS2 : Hid (decTo l (k + 1) = a * 10 + d) := by rw [HS.out, hd]; show _ = _; omega
      clear hc
      go_wp2_with fail
      go_roundw
      case rel => exact ⟨k + 1, by go_num, by omega, by rw [HS2.out]; congr 1 <;> omega, trivial⟩
      case measure => simp [intOf]; omega
    · have hkn : k = n := by omega
      subst hkn
      go_wp2
      go_ret
      exact ⟨rfl, rfl⟩

/-! ### The digits ahead -/
def leadN (l : List UInt8) : Nat := (l.takeWhile isDig).length
theorem leadN_le (l : List UInt8) : leadN l ≤ l.length := by
  unfold leadN; exact (List.takeWhile_prefix _).length_le
theorem leadN_spec (l : List UInt8) : (∀ j, j < leadN l → isDig (bAt l j) = true) ∧ (leadN l < l.length → isDig (bAt l (leadN l)) = false) := by
  induction l with
  | nil => exact ⟨fun j hj => absurd hj (Nat.not_lt_zero _), fun h => absurd h (Nat.not_lt_zero _)⟩
  | cons c t ih =>
    cases hc : isDig c with
    | false =>
      have e : leadN (c :: t) = 0 := by unfold leadN; rw [List.takeWhile_cons, hc]; rfl
      rw [e]
      exact ⟨fun j hj => absurd hj (Nat.not_lt_zero _), fun _ => hc⟩
    | true =>
      have e : leadN (c :: t) = leadN t + 1 := by unfold leadN; rw [List.takeWhile_cons, hc]; rfl
      rw [e]
      refine ⟨fun j hj => ?_, fun h => ?_⟩
      · cases j with
        | zero => exact hc
        | succ j => exact ih.1 j (by omega)
      · exact ih.2 (by simpa using h)
def leadOk (l : List UInt8) : Bool := decide (0 < leadN l) && (!(decide (bAt l 0 = 48)) || decide (leadN l = 1))

set_option maxHeartbeats 1000000 in
theorem refDigits_any (l : List UInt8) (hl : l.length ≤ 4611686018427387904) (w : World) :
    Calls Tryz.prog 115 #[.string (bs l)] w fun e w' => e = .returned (.tuple #[.int .i64 (leadN l : Int), .bool (leadOk l)]) ∧ w' = w := by
  obtain ⟨n, hn⟩ : ∃ n, l.length = n := ⟨_, rfl⟩
  obtain ⟨q, hq⟩ : ∃ q, leadN l = q := ⟨_, rfl⟩
  have hqn := leadN_le l
  obtain ⟨H1, H2⟩ := leadN_spec l
  have HO : Hid (leadOk l = (decide (0 < q) && (!(decide (bAt l 0 = 48)) || decide (q = 1)))) := by unfold Hid leadOk; rw [hq]
  rw [hn] at hl hqn H2
  rw [hq] at hqn H1 H2 ⊢
  have H1 := Lib.hid H1
  have H2 := Lib.hid H2
  clear hq
  go_enter Tryz.func115, Tryz.ntmps115
  go_wp2_with fail
  go_loopw [4] (fun i wr => ∃ k : Nat, i = .int .i64 k ∧ k ≤ q ∧ wr = w) (fun i _ => n - (intOf i).toNat)
  case atStart => exact ⟨0, rfl, Nat.zero_le _, rfl⟩
  case round =>
    obtain ⟨k, rfl, hk, rfl⟩ := hrel
    by_cases hlt : k < q
    · have hkl : k < l.length := by rw [hn]; omega
      have hkn : k < n := by omega
      have hc := dig_nat (H1.out k hlt)
      go_wp2_with fail
      go_roundw
      case rel => exact ⟨k + 1, by go_num, by omega, trivial⟩
      case measure => simp [intOf]; omega
    · have hkq : k = q := by omega
      subst hkq
      have hfin : True := trivial
      clear hfin
      have hz : (((bAt l 0).toNat : Int) == 48) = decide (bAt l 0 = 48) := by
        rw [Bool.eq_iff_iff]; simp; rw [← UInt8.toNat_inj, show (48 : UInt8).toNat = 48 from rfl]; omega
      have hz' : (((bAt l 0).toNat : Int) != 48) = !decide (bAt l 0 = 48) := by rw [bne, hz]
      have hq1 : ((k : Int) == 1) = decide (k = 1) := by rw [Bool.eq_iff_iff]; simp; omega
      have hq0 : decide ((0 : Int) < (k : Int)) = decide (0 < k) := by rw [Bool.eq_iff_iff]; simp
      clear hq0
      by_cases hlt : k < n
      · have hkl : k < l.length := by rw [hn]; exact hlt
        have hc := H2.out hlt
        rcases dig_tests (bAt l k) with ⟨t1, hv⟩ | ⟨t1, t2, hv⟩ | ⟨t1, t2, hv⟩
        · have t1' : decide ((48 : Int) ≤ ((bAt l k).toNat : Int)) = false := by simp at t1 ⊢; omega
          clear t1 hv hc
          by_cases h0 : 0 < k
          · have hn0 : 0 < n := by omega
            have g0 : decide ((0 : Int) < (k : Int)) = true := by simpa using h0
            cases b1 : decide (bAt l 0 = 48) with
            | false =>
              have HR : Hid (leadOk l = true) := by rw [HO.out, b1, decide_eq_true h0]; exact rfl
              rw [b1] at hz hz'; clear b1
              go_wp2
              go_ret2
              exact ⟨by rw [HR.out]; rfl, rfl⟩
            | true =>
              cases b2 : decide (k = 1) with
              | false =>
                have HR : Hid (leadOk l = false) := by rw [HO.out, b1, b2, decide_eq_true h0]; exact rfl
                rw [b1] at hz hz'; rw [b2] at hq1; clear b1 b2
                go_wp2
                go_ret2
                exact ⟨by rw [HR.out]; rfl, rfl⟩
              | true =>
                have HR : Hid (leadOk l = true) := by rw [HO.out, b1, b2, decide_eq_true h0]; exact rfl
                rw [b1] at hz hz'; rw [b2] at hq1; clear b1 b2
                go_wp2
                go_ret2
                exact ⟨by rw [HR.out]; rfl, rfl⟩
          · have g0 : decide ((0 : Int) < (k : Int)) = false := by simp; omega
            have HR : Hid (leadOk l = false) := by rw [HO.out, decide_eq_false h0]; exact rfl
            go_wp2
            go_ret2
            exact ⟨by rw [HR.out]; rfl, rfl⟩
        · have t1' : decide ((48 : Int) ≤ ((bAt l k).toNat : Int)) = true := by simp at t1 ⊢; omega
          have t2' : decide (((bAt l k).toNat : Int) ≤ 57) = false := by simp at t2 ⊢; omega
          clear t1 t2 hv hc
          by_cases h0 : 0 < k
          · have hn0 : 0 < n := by omega
            have g0 : decide ((0 : Int) < (k : Int)) = true := by simpa using h0
            cases b1 : decide (bAt l 0 = 48) with
            | false =>
              have HR : Hid (leadOk l = true) := by rw [HO.out, b1, decide_eq_true h0]; exact rfl
              rw [b1] at hz hz'; clear b1
              go_wp2
              go_ret2
              exact ⟨by rw [HR.out]; rfl, rfl⟩
            | true =>
              cases b2 : decide (k = 1) with
              | false =>
                have HR : Hid (leadOk l = false) := by rw [HO.out, b1, b2, decide_eq_true h0]; exact rfl
                rw [b1] at hz hz'; rw [b2] at hq1; clear b1 b2
                go_wp2
                go_ret2
                exact ⟨by rw [HR.out]; rfl, rfl⟩
              | true =>
                have HR : Hid (leadOk l = true) := by rw [HO.out, b1, b2, decide_eq_true h0]; exact rfl
                rw [b1] at hz hz'; rw [b2] at hq1; clear b1 b2
                go_wp2
                go_ret2
                exact ⟨by rw [HR.out]; rfl, rfl⟩
          · have g0 : decide ((0 : Int) < (k : Int)) = false := by simp; omega
            have HR : Hid (leadOk l = false) := by rw [HO.out, decide_eq_false h0]; exact rfl
            go_wp2
            go_ret2
            exact ⟨by rw [HR.out]; rfl, rfl⟩
        · rw [hv] at hc; cases hc
      · have hkn : decide ((k : Int) < (n : Int)) = false := by simp; omega
        by_cases h0 : 0 < k
        · have hn0 : 0 < n := by omega
          have g0 : decide ((0 : Int) < (k : Int)) = true := by simpa using h0
          cases b1 : decide (bAt l 0 = 48) with
          | false =>
            have HR : Hid (leadOk l = true) := by rw [HO.out, b1, decide_eq_true h0]; exact rfl
            rw [b1] at hz hz'; clear b1
            go_wp2
            go_ret2
            exact ⟨by rw [HR.out]; rfl, rfl⟩
          | true =>
            cases b2 : decide (k = 1) with
            | false =>
              have HR : Hid (leadOk l = false) := by rw [HO.out, b1, b2, decide_eq_true h0]; exact rfl
              rw [b1] at hz hz'; rw [b2] at hq1; clear b1 b2
              go_wp2
              go_ret2
              exact ⟨by rw [HR.out]; rfl, rfl⟩
            | true =>
              have HR : Hid (leadOk l = true) := by rw [HO.out, b1, b2, decide_eq_true h0]; exact rfl
              rw [b1] at hz hz'; rw [b2] at hq1; clear b1 b2
              go_wp2
              go_ret2
              exact ⟨by rw [HR.out]; rfl, rfl⟩
        · have g0 : decide ((0 : Int) < (k : Int)) = false := by simp; omega
          have HR : Hid (leadOk l = false) := by rw [HO.out, decide_eq_false h0]; exact rfl
          go_wp2
          go_ret2
          exact ⟨by rw [HR.out]; rfl, rfl⟩
end Go.Proofs.YtalpbphfmelhhaaGreatDoor

/-! ### The texts' parts: cut. -/
namespace Go.Proofs.YtalpbphfmelhhaaGreatDoor
set_option maxRecDepth 100000
open Go.RowKit Go.Shelf Go.Sort
attribute [local go_sem] bs_size bs_get bs_toList

/-- Where the first p stands. -/
def pAt (l : List UInt8) : Nat := (l.takeWhile (fun c => c != 112)).length
theorem pAt_le (l : List UInt8) : pAt l ≤ l.length := by
  unfold pAt; exact (List.takeWhile_prefix _).length_le
theorem pAt_spec (l : List UInt8) : (∀ j, j < pAt l → bAt l j ≠ 112) ∧ (pAt l < l.length → bAt l (pAt l) = 112) := by
  induction l with
  | nil => exact ⟨fun j hj => absurd hj (Nat.not_lt_zero _), fun h => absurd h (Nat.not_lt_zero _)⟩
  | cons c t ih =>
    by_cases hc : c = 112
    · have e : pAt (c :: t) = 0 := by unfold pAt; rw [List.takeWhile_cons, hc]; rfl
      rw [e]
      exact ⟨fun j hj => absurd hj (Nat.not_lt_zero _), fun _ => hc⟩
    · have hb : (c != 112) = true := by simpa using hc
      have e : pAt (c :: t) = pAt t + 1 := by unfold pAt; rw [List.takeWhile_cons, hb]; rfl
      rw [e]
      refine ⟨fun j hj => ?_, fun h => ?_⟩
      · cases j with
        | zero => exact hc
        | succ j => exact ih.1 j (by omega)
      · exact ih.2 (by simpa using h)

theorem bs_take (l : List UInt8) (k : Nat) : (bs l).extract 0 k = bs (l.take k) := by
  apply ByteArray.ext
  simp [bs, ByteArray.data_extract]
theorem bs_drop (l : List UInt8) (k : Nat) : (bs l).extract k l.length = bs (l.drop k) := by
  apply ByteArray.ext
  simp [bs, ByteArray.data_extract, List.take_of_length_le]
set_option maxHeartbeats 1000000 in
theorem cut_any (l : List UInt8) (hl : l.length ≤ 4611686018427387904) (w : World) :
    Calls Tryz.prog 143 #[.string (bs l)] w fun e w' => e = .returned (.tuple (if pAt l < l.length then #[.string (bs (l.take (pAt l))), .string (bs (l.drop (pAt l + 1))), .bool true] else #[.string (bs []), .string (bs []), .bool false])) ∧ ∃ nd, w' = w.drewN nd := by
  obtain ⟨n, hn⟩ : ∃ n, l.length = n := ⟨_, rfl⟩
  obtain ⟨q, hq⟩ : ∃ q, pAt l = q := ⟨_, rfl⟩
  have hqn := pAt_le l
  obtain ⟨H1, H2⟩ := pAt_spec l
  rw [hn] at hl hqn H2
  rw [hq] at hqn H1 H2
  obtain ⟨R, HR⟩ : ∃ R : Array Value, Hid (R = (if pAt l < l.length then #[.string (bs (l.take (pAt l))), .string (bs (l.drop (pAt l + 1))), .bool true] else #[.string (bs []), .string (bs []), .bool false])) := ⟨_, rfl⟩
  rw [← HR.out]
  rw [hq, hn] at HR
  have H1 := Lib.hid H1
  have H2 := Lib.hid H2
  clear hq
  go_enter Tryz.func143, Tryz.ntmps143
  go_wp2_with fail
  go_loopw [5, 8] (fun _ i wr => ∃ k : Nat, i = .int .i64 k ∧ k ≤ q ∧ wr = w) (fun _ i _ => n - (intOf i).toNat)
  case atStart => exact ⟨0, rfl, Nat.zero_le _, rfl⟩
  case round =>
    obtain ⟨k, rfl, hk, rfl⟩ := hrel
    by_cases hlt : k < q
    · have hkl : k < l.length := by rw [hn]; omega
      have hkn : k < n := by omega
      have hc := H1.out k hlt
      have hz : (((bAt l k).toNat : Int) == 112) = false := beq_eq_false_iff_ne.2 (fun h => hc (UInt8.toNat_inj.1 (by rw [show (112 : UInt8).toNat = 112 from rfl]; omega)))
      clear hc
      go_wp2_with fail
      go_roundw
      case rel => exact ⟨k + 1, by go_num, by omega, trivial⟩
      case measure => simp [intOf]; omega
    · have hkq : k = q := by omega
      subst hkq
      by_cases hlt : k < n
      · have HR : Hid (R = #[.string (bs (l.take k)), .string (bs (l.drop (k + 1))), .bool true]) := by rw [HR.out, if_pos hlt]; exact rfl
        have hkl : k < l.length := by rw [hn]; exact hlt
        have hz : (((bAt l k).toNat : Int) == 112) = true := by rw [H2.out hlt]; rfl
        go_wp2_with fail
        go_quiet (fail)
        go_wp2
        go_ret3
        refine ⟨?_, nq, rfl⟩
        have e1 : (bs l).extract 0 k = bs (l.take k) := bs_take l k
        have e2 : (bs l).extract (k + 1) n = bs (l.drop (k + 1)) := by rw [← hn]; exact bs_drop l (k + 1)
        rw [HR.out, ← e1, ← e2]; rfl
      · have HR : Hid (R = #[.string (bs []), .string (bs []), .bool false]) := by rw [HR.out, if_neg hlt]; exact rfl
        have hz : decide ((k : Int) < (n : Int)) = false := by simp; omega
        go_wp2
        go_ret3
        exact ⟨by rw [HR.out]; rfl, 0, rfl⟩
end Go.Proofs.YtalpbphfmelhhaaGreatDoor

/-! ### What Parse tells, in plain words. -/
namespace Go.Proofs.YtalpbphfmelhhaaGreatDoor
set_option maxRecDepth 100000
open Go.RowKit Go.Shelf Go.Sort

/-- Behind the sign of the place: the digits, the sign of the place, the place's digits. -/
def parseNum (neg : Bool) (a : List UInt8) (down : Bool) (b : List UInt8) : UInt64 × Int :=
  if !digB a || (a == [48]) || !digB b || (down && (b == [48])) then (0, 4)
  else if 16 < a.length ∨ 5 < b.length ∨ 9007199254740992 ≤ decTo a a.length ∨ decTo a a.length % 2 = 0 then (0, 1)
  else
    let e : Int := if down then -(decTo b b.length : Int) else (decTo b b.length : Int)
    if e < -1074 ∨ 1024 < (Lib.bitLen (decTo a a.length) : Int) + e then (0, 1)
    else (if neg then ldW (decTo a a.length) e ^^^ topW else ldW (decTo a a.length) e, 0)
def negB (l : List UInt8) : Bool := !l.isEmpty && decide (bAt l 0 = 45)
/-- Without the sign. -/
def unsgn (l : List UInt8) : List UInt8 := if negB l then l.drop 1 else l
def parseTail (neg : Bool) (t : List UInt8) : UInt64 × Int :=
  if pAt t < t.length then parseNum neg (t.take (pAt t)) (negB (t.drop (pAt t + 1))) (unsgn (t.drop (pAt t + 1))) else (0, 4)
def parseOf (l : List UInt8) : UInt64 × Int :=
  if l = [110, 97, 110] then (nanW, 0)
  else if l = [105, 110, 102] then (9218868437227405312, 0)
  else if l = [45, 105, 110, 102] then (18442240474082181120, 0)
  else if l = [48] then (0, 0)
  else if l = [45, 48] then (topW, 0)
  else parseTail (negB l) (unsgn l)
theorem neg_fb (x : UInt64) : Op.negFloat .f64 (fb x) = fb (x ^^^ topW) := by
  unfold fb; rw [UInt64.toNat_xor]; rfl
theorem bitLen_log2 (x : Nat) (h0 : x ≠ 0) (h : x < 2 ^ 64) : Lib.bitLen x = x.log2 + 1 := by
  have h1 := Lib.bitLen_shift x.log2 x (Nat.log2_self_le h0) h
  have h2 : x / 2 ^ x.log2 = 1 := by
    apply Nat.div_eq_of_lt_le
    · rw [Nat.one_mul]; exact Nat.log2_self_le h0
    · have := @Nat.lt_log2_self x
      rw [Nat.pow_succ] at this; omega
  rw [h1, h2]; show _ + 1 = _; rfl
theorem conv_nat (M : Nat) (h0 : M ≠ 0) (h : M < 9007199254740992) : floatOfInt .f64 (M : Int) = fb (fOf M) := by
  unfold fb fOf
  rw [(inR0 h0 h).ldW_nat]
  unfold floatOfInt ldN
  show Ieee.double.nearest (decide ((M : Int) < 0)) (M : Int).natAbs 0 = _
  rw [decide_eq_false (by omega)]; rfl
end Go.Proofs.YtalpbphfmelhhaaGreatDoor
