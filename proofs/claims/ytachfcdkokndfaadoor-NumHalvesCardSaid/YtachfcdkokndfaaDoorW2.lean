/-
  The walks of Trunc, Whole and the reference's Whole.
-/
import Derived.Test.YtachfcdkokndfaaDoorW1
import Derived.Test.YtachfcdkokndfaaDoorL2
import Derived.Laws.FloatArith
namespace Go.Proofs.YtachfcdkokndfaaDoor
open Go.RowKit Go.Shelf Go.Sort

def magN (x : UInt64) : Nat := x.toNat % 9223372036854775808
theorem lt64 (x : UInt64) : x.toNat < 18446744073709551616 := x.toNat_lt
theorem sv_small {a : Nat} (h : a < 9223372036854775808) : sv a = (a : Int) := by unfold sv; rw [if_neg (by omega)]
theorem ord_lt (a b : Nat) (ha : a % 9223372036854775808 < 9218868437227405312) (hb : b % 9223372036854775808 < 9218868437227405312) (ha2 : a < 18446744073709551616) (hb2 : b < 18446744073709551616) :
    (FloatKind.f64.format.order a b == some .lt) = decide (sv a < sv b) := by
  show (Ieee.double.order a b == some .lt) = _
  rw [order_sv a b ha hb ha2 hb2, Bool.eq_iff_iff, beq_iff_eq, decide_eq_true_iff, Option.some_inj, Std.compare_eq_lt]
theorem ord_gt (a b : Nat) (ha : a % 9223372036854775808 < 9218868437227405312) (hb : b % 9223372036854775808 < 9218868437227405312) (ha2 : a < 18446744073709551616) (hb2 : b < 18446744073709551616) :
    (FloatKind.f64.format.order a b == some .gt) = decide (sv b < sv a) := by
  show (Ieee.double.order a b == some .gt) = _
  rw [order_sv a b ha hb ha2 hb2, Bool.eq_iff_iff, beq_iff_eq, decide_eq_true_iff, Option.some_inj, Std.compare_eq_gt]
theorem ord_eq (a b : Nat) (ha : a % 9223372036854775808 < 9218868437227405312) (hb : b % 9223372036854775808 < 9218868437227405312) (ha2 : a < 18446744073709551616) (hb2 : b < 18446744073709551616) :
    (FloatKind.f64.format.order a b == some .eq) = decide (sv a = sv b) := by
  show (Ieee.double.order a b == some .eq) = _
  rw [order_sv a b ha hb ha2 hb2, Bool.eq_iff_iff, beq_iff_eq, decide_eq_true_iff, Option.some_inj, Std.compare_eq_iff_eq]
theorem ord_ne (a b : Nat) (ha : a % 9223372036854775808 < 9218868437227405312) (hb : b % 9223372036854775808 < 9218868437227405312) (ha2 : a < 18446744073709551616) (hb2 : b < 18446744073709551616) :
    (FloatKind.f64.format.order a b != some .eq) = decide (sv a ≠ sv b) := by
  rw [bne, ord_eq a b ha hb ha2 hb2]; simp

/-! ### The whole part as a float -/
def trN (a : Nat) : Nat := Ieee.double.nearest false (intN a) 0
theorem trN_bd (a : Nat) (h : a ≤ 4845873199050653696) : trN a < 9218868437227405312 := by
  unfold trN
  have hN := intN_le a h
  generalize intN a = N at *
  rcases Nat.eq_zero_or_pos N with h0 | h0
  · subst h0; rw [nearest_zero]; decide
  · rcases Nat.lt_or_ge N 9007199254740992 with hlt | hge
    · exact (inR0 (m := N) (by omega) hlt).ld.2
    · have : N = 9007199254740992 := by omega
      subst this; decide +kernel
theorem trN_eq (a : Nat) (h : a ≤ 4845873199050653696) : trN a = a ↔ wholeN a = true := by
  constructor
  · intro he; exact whole_of_back a (intN a) h (intN_le a h) he
  · intro hw
    rcases Nat.eq_zero_or_pos a with h0 | h0
    · subst h0
      have : intN 0 = 0 := by unfold intN mN; rw [if_pos (by decide)]; simp
      unfold trN; rw [this, nearest_zero]; rfl
    · exact whole_back false a h (by omega) hw
theorem nearest_neg (M : Nat) (P : Int) : Ieee.double.nearest true M P = 9223372036854775808 + Ieee.double.nearest false M P := by
  have hs : Ieee.double.signWeight = 9223372036854775808 := by decide
  unfold Ieee.Format.nearest
  by_cases h : M = 0
  · rw [if_pos h, if_pos h]; unfold Ieee.Format.word; rw [hs]; rfl
  · rw [if_neg h, if_neg h]
    unfold Ieee.Format.word
    rw [hs]
    simp only [if_true, if_false, Bool.false_eq_true]
    rfl
/-- Its whole part as a float. -/
def truncW (x : UInt64) : UInt64 := UInt64.ofNat (if 9223372036854775808 ≤ x.toNat then 9223372036854775808 + trN (magN x) else trN (magN x))
theorem truncW_nat (x : UInt64) (h : magN x ≤ 4845873199050653696) : (truncW x).toNat = if 9223372036854775808 ≤ x.toNat then 9223372036854775808 + trN (magN x) else trN (magN x) := by
  have := trN_bd _ h
  unfold truncW
  rw [UInt64.toNat_ofNat', Nat.mod_eq_of_lt]
  split <;> omega
/-- Its whole part. -/
def intX (x : UInt64) : Int := if 9223372036854775808 ≤ x.toNat then -(intN (magN x) : Int) else (intN (magN x) : Int)
def backX (x : UInt64) : UInt64 := UInt64.ofNat (floatOfInt .f64 (intX x))
theorem backX_fb (x : UInt64) : floatOfInt .f64 (intX x) = fb (backX x) := by
  have h : floatOfInt .f64 (intX x) < 2 ^ 64 := Ieee.Format.nearest_lt Ieee.double _ _ _
  unfold fb backX
  rw [UInt64.toNat_ofNat', Nat.mod_eq_of_lt h]
theorem backX_nat (x : UInt64) : (backX x).toNat = if intX x < 0 then 9223372036854775808 + trN (magN x) else trN (magN x) := by
  show fb (backX x) = _
  rw [← backX_fb]
  show Ieee.double.nearest (decide (intX x < 0)) (intX x).natAbs 0 = _
  have : (intX x).natAbs = intN (magN x) := by unfold intX; split <;> omega
  rw [this]
  by_cases h : intX x < 0
  · rw [decide_eq_true h, if_pos h, nearest_neg]; rfl
  · rw [decide_eq_false h, if_neg h]; rfl
theorem magN_nat (x : UInt64) : x.toNat = if 9223372036854775808 ≤ x.toNat then 9223372036854775808 + magN x else magN x := by
  have := lt64 x
  unfold magN; split <;> omega
/-- Both tests. -/
theorem trunc_ne (x : UInt64) (h : magN x ≤ 4845873199050653696) : (FloatKind.f64.format.order (fb x) (fb (truncW x)) != some .eq) = !wholeN (magN x) := by
  have hx := lt64 x
  have hb := trN_bd _ h
  have ht := truncW_nat x h
  have hm := magN_nat x
  have he := trN_eq _ h
  have hmx : magN x = x.toNat % 9223372036854775808 := rfl
  rw [ord_ne (fb x) (fb (truncW x)) (by unfold fb; omega) (by unfold fb; rw [ht]; split <;> omega) hx (lt64 _)]
  rw [Bool.eq_iff_iff, decide_eq_true_iff, Bool.not_eq_true', ← Bool.not_eq_true, ← he]
  unfold fb
  rw [ht]
  unfold sv
  by_cases hn : 9223372036854775808 ≤ x.toNat
  · rw [if_pos hn, if_pos hn, if_pos (by omega)]; omega
  · rw [if_neg hn, if_neg hn, if_neg (by omega)]; omega
theorem back_sv (x : UInt64) (h : magN x ≤ 4845873199050653696) : sv (backX x).toNat = if 9223372036854775808 ≤ x.toNat then -(trN (magN x) : Int) else (trN (magN x) : Int) := by
  have hb := trN_bd _ h
  rw [backX_nat]
  unfold intX
  by_cases hn : 9223372036854775808 ≤ x.toNat
  · rw [if_pos hn, if_pos hn]
    by_cases h0 : intN (magN x) = 0
    · have hz : trN (magN x) = 0 := by unfold trN; rw [h0, nearest_zero]; rfl
      have h1 : ¬ (-(intN (magN x) : Int) < 0) := by omega
      rw [if_neg h1, hz]; decide
    · have h1 : -(intN (magN x) : Int) < 0 := by omega
      rw [if_pos h1]
      unfold sv
      rw [if_pos (by omega)]; omega
  · rw [if_neg hn, if_neg hn]
    have h1 : ¬ ((intN (magN x) : Int) < 0) := by omega
    rw [if_neg h1]
    exact sv_small (by omega)
theorem back_ne (x : UInt64) (h : magN x ≤ 4845873199050653696) : (FloatKind.f64.format.order (fb (backX x)) (fb x) != some .eq) = !wholeN (magN x) := by
  have hx := lt64 x
  have hb := trN_bd _ h
  have ht := backX_nat x
  have hm := magN_nat x
  have he := trN_eq _ h
  have hs := back_sv x h
  have hmx : magN x = x.toNat % 9223372036854775808 := rfl
  rw [ord_ne (fb (backX x)) (fb x) (by unfold fb; rw [ht]; split <;> omega) (by unfold fb; omega) (lt64 _) hx]
  rw [Bool.eq_iff_iff, decide_eq_true_iff, Bool.not_eq_true', ← Bool.not_eq_true, ← he]
  unfold fb
  rw [hs]
  unfold sv
  by_cases hn : 9223372036854775808 ≤ x.toNat
  · rw [if_pos hn, if_pos hn]; omega
  · rw [if_neg hn, if_neg hn]; omega
theorem toInt_x (x : UInt64) (h : magN x ≤ 4845873199050653696) : floatToIntVal .f64 (fb x) .i64 = some (intX x) := by
  have hN := intN_le _ h
  have ht : (Ieee.double.read (fb x)).toInt .zero = some (intX x) := by
    unfold fb; rw [toInt_fin x.toNat (by unfold magN at h; omega) (lt64 x)]; rfl
  have hr : IntKind.i64.min ≤ intX x ∧ intX x ≤ IntKind.i64.max := by
    have e1 : IntKind.i64.min = -9223372036854775808 := by decide
    have e2 : IntKind.i64.max = 9223372036854775807 := by decide
    rw [e1, e2]; unfold intX; split <;> omega
  unfold floatToIntVal
  show (match (Ieee.double.read (fb x)).toInt .zero with | some n => _ | none => _) = _
  rw [ht]
  simp only [hr, and_self, if_true]
/-- The two bounds. -/
def inB (x : UInt64) : Bool := decide (magN x ≤ 4845873199050653696)
theorem bounds_x (x : UInt64) : ((FloatKind.f64.format.order (fb x) 14069245235905429504 == some .gt || FloatKind.f64.format.order (fb x) 14069245235905429504 == some .eq) && (FloatKind.f64.format.order (fb x) 4845873199050653696 == some .lt || FloatKind.f64.format.order (fb x) 4845873199050653696 == some .eq)) = inB x := by
  have hx := lt64 x
  have hmx : magN x = x.toNat % 9223372036854775808 := rfl
  unfold inB
  by_cases hf : magN x < 9218868437227405312
  · rw [ord_gt (fb x) _ (by unfold fb; omega) (by decide) hx (by decide), ord_eq (fb x) _ (by unfold fb; omega) (by decide) hx (by decide), ord_lt (fb x) _ (by unfold fb; omega) (by decide) hx (by decide), ord_eq (fb x) _ (by unfold fb; omega) (by decide) hx (by decide)]
    have e1 : sv 14069245235905429504 = -4845873199050653696 := by decide
    have e2 : sv 4845873199050653696 = 4845873199050653696 := by decide
    rw [e1, e2, Bool.eq_iff_iff]
    simp only [Bool.and_eq_true, Bool.or_eq_true, decide_eq_true_iff]
    unfold sv fb
    by_cases hn : 9223372036854775808 ≤ x.toNat
    · rw [if_pos hn]; omega
    · rw [if_neg hn]; omega
  · rw [decide_eq_false (by omega)]
    have r1 : Ieee.double.read 14069245235905429504 = .number true 4503599627370496 1 := by decide +kernel
    have r2 : Ieee.double.read 4845873199050653696 = .number false 4503599627370496 1 := by decide +kernel
    show ((Ieee.double.order (fb x) _ == _ || Ieee.double.order (fb x) _ == _) && (Ieee.double.order (fb x) _ == _ || Ieee.double.order (fb x) _ == _)) = false
    unfold Ieee.Format.order fb
    rw [r1, r2, read_dbl, if_neg (by omega), if_neg (by omega)]
    by_cases hi : x.toNat % 9223372036854775808 = 9218868437227405312
    · rw [if_pos hi]
      cases (x.toNat / 9223372036854775808 % 2 == 1) <;> decide
    · rw [if_neg hi]
      rfl
end Go.Proofs.YtachfcdkokndfaaDoor
