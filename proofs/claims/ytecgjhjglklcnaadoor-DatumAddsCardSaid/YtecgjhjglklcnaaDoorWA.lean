/-
  Plain laws: the order of words with their signs; which floats are whole numbers. No program in sight.
-/
import Derived.Test.YtecgjhjglklcnaaDoorNG
namespace Go.Proofs.YtecgjhjglklcnaaDoor
open Go.RowKit Go.Shelf

/-- A word that is no NaN, as a whole number that rises as the float does. -/
def sv (n : Nat) : Int := if 9223372036854775808 ≤ n then -((n - 9223372036854775808 : Nat) : Int) else (n : Int)
def mN (a : Nat) : Nat := if a < 4503599627370496 then a else 4503599627370496 + a % 4503599627370496
def eN (a : Nat) : Int := if a < 4503599627370496 then -1074 else ((a / 4503599627370496 : Nat) : Int) - 1075
theorem read_fin (n : Nat) (h : n % 9223372036854775808 < 9218868437227405312) : Ieee.double.read n = .number (n / 9223372036854775808 % 2 == 1) (mN (n % 9223372036854775808)) (eN (n % 9223372036854775808)) := by
  rw [read_dbl]
  unfold mN eN
  by_cases h1 : n % 9223372036854775808 < 4503599627370496
  · rw [if_pos h1, if_pos h1, if_pos h1]
  · rw [if_neg h1, if_pos h, if_neg h1, if_neg h1]
    congr 1; omega
theorem place_nat (a : Nat) (h : a < 9218868437227405312) : (eN a + 1074).toNat * 4503599627370496 + mN a = a ∧ -1074 ≤ eN a ∧ (4503599627370496 ≤ mN a ∨ eN a = -1074) ∧ mN a < 9007199254740992 ∧ eN a ≤ 971 := by
  unfold eN mN
  by_cases h1 : a < 4503599627370496
  · rw [if_pos h1, if_pos h1]
    refine ⟨?_, by decide, Or.inr rfl, by omega, by decide⟩
    have : ((-1074 : Int) + 1074).toNat = 0 := rfl
    rw [this]; omega
  · rw [if_neg h1, if_neg h1]
    refine ⟨?_, by omega, Or.inl (by omega), by omega, by omega⟩
    have : (((a / 4503599627370496 : Nat) : Int) - 1075 + 1074).toNat = a / 4503599627370496 - 1 := by omega
    rw [this]; omega
theorem cmp_int {a b c d : Int} (h1 : a < b ↔ c < d) (h2 : a = b ↔ c = d) : compare a b = compare c d := by
  rcases Int.lt_trichotomy a b with h | h | h
  · rw [Std.compare_eq_lt.2 h, Std.compare_eq_lt.2 (h1.1 h)]
  · subst h; rw [h2.1 rfl]; simp
  · have : d < c := by
      rcases Int.lt_trichotomy c d with h3 | h3 | h3
      · have := h1.2 h3; omega
      · have := h2.2 h3; omega
      · exact h3
    rw [Std.compare_eq_gt.2 h, Std.compare_eq_gt.2 this]
theorem cmp_pos_iff {a b c d : Nat} (h : compare a b = compare c d) : (a < b ↔ c < d) ∧ (a = b ↔ c = d) := by
  constructor
  · rw [← Nat.compare_eq_lt, h, Nat.compare_eq_lt]
  · rw [← Nat.compare_eq_eq, h, Nat.compare_eq_eq]
/-- The order of words that are finite. -/
theorem order_sv (a b : Nat) (ha : a % 9223372036854775808 < 9218868437227405312) (hb : b % 9223372036854775808 < 9218868437227405312) (ha2 : a < 18446744073709551616) (hb2 : b < 18446744073709551616) :
    Ieee.double.order a b = some (compare (sv a) (sv b)) := by
  have hp := order_pos _ _ ha hb
  unfold Ieee.Format.order at hp ⊢
  rw [read_fin a ha, read_fin b hb]
  rw [read_fin _ (by omega), read_fin _ (by omega)] at hp
  simp only [Nat.mod_mod] at hp
  have s1 : (a % 9223372036854775808 / 9223372036854775808 % 2 == 1) = false := by rw [Nat.div_eq_of_lt (by omega)]; rfl
  have s2 : (b % 9223372036854775808 / 9223372036854775808 % 2 == 1) = false := by rw [Nat.div_eq_of_lt (by omega)]; rfl
  rw [s1, s2] at hp
  have za := place_nat _ ha
  have zb := place_nat _ hb
  have m0 : mN (a % 9223372036854775808) = 0 ↔ a % 9223372036854775808 = 0 := by
    unfold mN; split <;> omega
  have n0 : mN (b % 9223372036854775808) = 0 ↔ b % 9223372036854775808 = 0 := by
    unfold mN; split <;> omega
  generalize hA : a % 9223372036854775808 = A at *
  generalize hB : b % 9223372036854775808 = B at *
  generalize mN A = m at *
  generalize mN B = n at *
  generalize eN A = e at *
  generalize eN B = f at *
  have hp2 : compare ((m <<< (e - min e f).toNat : Nat) : Int) ((n <<< (f - min e f).toNat : Nat) : Int) = compare A B := Option.some.inj hp
  rw [cmp_nat] at hp2
  obtain ⟨c1, c2⟩ := cmp_pos_iff hp2
  have hX : m <<< (e - min e f).toNat = 0 ↔ A = 0 := by
    rw [← m0, Nat.shiftLeft_eq]
    have := Nat.two_pow_pos (e - min e f).toNat
    constructor
    · intro h; rcases Nat.mul_eq_zero.1 h with h | h
      · exact h
      · omega
    · intro h; rw [h, Nat.zero_mul]
  have hY : n <<< (f - min e f).toNat = 0 ↔ B = 0 := by
    rw [← n0, Nat.shiftLeft_eq]
    have := Nat.two_pow_pos (f - min e f).toNat
    constructor
    · intro h; rcases Nat.mul_eq_zero.1 h with h | h
      · exact h
      · omega
    · intro h; rw [h, Nat.zero_mul]
  show some (compare (Ieee.signed _ m (e - min e f).toNat) (Ieee.signed _ n (f - min e f).toNat)) = _
  congr 1
  unfold Ieee.signed sv
  generalize m <<< (e - min e f).toNat = X at *
  generalize n <<< (f - min e f).toNat = Y at *
  clear hp hp2 za zb m0 n0 s1 s2
  have t1 : (a / 9223372036854775808 % 2 == 1) = decide (9223372036854775808 ≤ a) := by
    rw [Bool.eq_iff_iff, beq_iff_eq, decide_eq_true_iff]; omega
  have t2 : (b / 9223372036854775808 % 2 == 1) = decide (9223372036854775808 ≤ b) := by
    rw [Bool.eq_iff_iff, beq_iff_eq, decide_eq_true_iff]; omega
  rw [t1, t2]
  by_cases p1 : 9223372036854775808 ≤ a <;> by_cases p2 : 9223372036854775808 ≤ b <;>
    simp only [p1, p2, decide_true, decide_false, if_true, if_false, Bool.false_eq_true] <;> refine cmp_int ?_ ?_ <;> omega
theorem cut_zero (neg : Bool) (n d : Nat) : Ieee.Toward.zero.cut neg n d = n / 2 ^ d := by
  unfold Ieee.Toward.cut
  simp only [Bool.toNat_false, Nat.add_zero, Nat.one_shiftLeft]
  rcases Nat.le_total d (n.log2 + 2) with h | h
  · rw [Nat.min_eq_left h]
  · rw [Nat.min_eq_right h]
    have h1 : n < 2 ^ (n.log2 + 1) := Nat.lt_log2_self
    have h2 : n < 2 ^ (n.log2 + 2) := Nat.lt_of_lt_of_le h1 (Nat.pow_le_pow_right (by decide) (by omega))
    rw [Nat.div_eq_of_lt h2, Nat.div_eq_of_lt (Nat.lt_of_lt_of_le h2 (Nat.pow_le_pow_right (by decide) h))]
/-- The whole part of a size. -/
def intN (a : Nat) : Nat := mN a <<< (eN a).toNat / 2 ^ (-eN a).toNat
def wholeN (a : Nat) : Bool := mN a % 2 ^ (-eN a).toNat == 0
theorem toInt_fin (n : Nat) (h : n % 9223372036854775808 < 9218868437227405312) (h2 : n < 18446744073709551616) :
    (Ieee.double.read n).toInt .zero = some (if 9223372036854775808 ≤ n then -(intN (n % 9223372036854775808) : Int) else (intN (n % 9223372036854775808) : Int)) := by
  rw [read_fin n h]
  unfold Ieee.Datum.toInt Ieee.Datum.integral
  simp only [cut_zero]
  unfold Ieee.signed intN
  rw [Nat.shiftLeft_zero]
  have t1 : (n / 9223372036854775808 % 2 == 1) = decide (9223372036854775808 ≤ n) := by
    rw [Bool.eq_iff_iff, beq_iff_eq, decide_eq_true_iff]; omega
  rw [t1]
  by_cases p : 9223372036854775808 ≤ n <;> simp [p]
/-- Up to 2^53 the whole part is not above 2^53. -/
theorem intN_le (a : Nat) (h : a ≤ 4845873199050653696) : intN a ≤ 9007199254740992 := by
  unfold intN
  obtain ⟨h1, h2, h3, h4, h5⟩ := place_nat a (by omega)
  by_cases he : eN a ≤ 0
  · have : (eN a).toNat = 0 := by omega
    rw [this, Nat.shiftLeft_zero]
    exact Nat.le_trans (Nat.div_le_self _ _) (by omega)
  · have e1 : eN a = 1 := by
      have : ((eN a + 1074).toNat : Int) = eN a + 1074 := by omega
      omega
    rw [e1]
    have : mN a = 4503599627370496 := by
      rw [e1] at h1
      have : ((1 : Int) + 1074).toNat = 1075 := rfl
      rw [this] at h1; omega
    rw [this]; decide
/-- A whole number's word. -/
theorem whole_back (neg : Bool) (a : Nat) (h : a ≤ 4845873199050653696) (h0 : a ≠ 0) (hw : wholeN a = true) : Ieee.double.nearest neg (intN a) 0 = Ieee.double.word neg a := by
  obtain ⟨h1, h2, h3, h4, h5⟩ := place_nat a (by omega)
  have hm : mN a ≠ 0 := by unfold mN; split <;> omega
  unfold wholeN at hw
  have hw := beq_iff_eq.1 hw
  rw [nearest_exact neg (intN a) 0 (mN a) (eN a) hm h4 h2 h3 (fun hle => ?_) (fun hle => ?_), h1]
  · congr 1; exact Nat.min_eq_left (by omega)
  · unfold intN
    have : (-eN a).toNat = 0 := by omega
    rw [this, Nat.pow_zero, Nat.div_one, Nat.shiftLeft_eq, Int.sub_zero]
  · unfold intN
    have : (eN a).toNat = 0 := by omega
    rw [this, Nat.shiftLeft_zero, Int.zero_sub]
    exact (Nat.div_mul_cancel (Nat.dvd_of_mod_eq_zero hw)).symm
theorem nearest_zero (neg : Bool) (p : Int) : Ieee.double.nearest neg 0 p = Ieee.double.word neg 0 := by
  unfold Ieee.Format.nearest; rw [if_pos rfl]
/-- No whole number has the word of one that is not. -/
theorem whole_of_back (a N : Nat) (h : a ≤ 4845873199050653696) (hN : N ≤ 9007199254740992) (he : Ieee.double.nearest false N 0 = a) : wholeN a = true := by
  rcases Nat.eq_zero_or_pos N with h0 | h0
  · subst h0
    rw [nearest_zero] at he
    have : a = 0 := he.symm
    subst this
    unfold wholeN mN
    rw [if_pos (by decide), Nat.zero_mod]; rfl
  · rcases Nat.lt_or_ge N 9007199254740992 with hlt | hge
    · have hI := inR0 (m := N) (by omega) hlt
      have hup := hI.up
      have hld := hI.ld.1
      have he2 : ldN N 0 = a := he
      rw [hld] at he2
      have hk : upK N 0 = 52 - N.log2 := by unfold upK; omega
      have hkl := hI.log
      rw [hk] at he2 hup
      have h2 : 4503599627370496 ≤ N * 2 ^ (52 - N.log2) := by
        rcases hup.2.1 with h' | h'
        · exact h'
        · omega
      have h3 := hup.1
      have hm : mN a = N * 2 ^ (52 - N.log2) ∧ eN a = -((52 - N.log2 : Nat) : Int) := by
        unfold mN eN
        have e1 : ((0 : Int) - ((52 - N.log2 : Nat) : Int) + 1074).toNat = 1074 - (52 - N.log2) := by omega
        rw [e1] at he2
        rw [if_neg (by omega), if_neg (by omega)]
        omega
      unfold wholeN
      rw [hm.1, hm.2]
      have : (- -((52 - N.log2 : Nat) : Int)).toNat = 52 - N.log2 := by omega
      rw [this, Nat.mul_mod_left]; rfl
    · have : N = 9007199254740992 := by omega
      subst this
      have e : Ieee.double.nearest false 9007199254740992 0 = 4845873199050653696 := by decide +kernel
      rw [e] at he
      subst he; decide +kernel
end Go.Proofs.YtecgjhjglklcnaaDoor
