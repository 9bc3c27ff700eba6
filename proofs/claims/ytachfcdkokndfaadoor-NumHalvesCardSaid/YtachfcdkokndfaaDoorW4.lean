/-
  Plain laws of float arithmetic: sums and products turned round, what is taken from itself, products with 1.
-/
import Derived.Test.YtachfcdkokndfaaDoorW2
namespace Go.Proofs.YtachfcdkokndfaaDoor
open Go.RowKit Go.Shelf

theorem sum_comm (a b : Ieee.Datum) : a.sum b = b.sum a := by
  cases a with
  | number s m i =>
    cases b with
    | number t n j =>
      show (let base := min i j; let total := Ieee.signed s m (i - base).toNat + Ieee.signed t n (j - base).toNat; some (Ieee.Datum.number (if total = 0 then s && t else total < 0) total.natAbs base)) = (let base := min j i; let total := Ieee.signed t n (j - base).toNat + Ieee.signed s m (i - base).toNat; some (Ieee.Datum.number (if total = 0 then t && s else total < 0) total.natAbs base))
      simp only [Int.min_comm j i, Int.add_comm (Ieee.signed t n _), Bool.and_comm t s]
    | infinity t => rfl
    | nan t f => rfl
  | infinity s =>
    cases b with
    | number t n j => rfl
    | infinity t =>
      show (if s = t then _ else _) = (if t = s then _ else _)
      by_cases h : s = t
      · subst h; rfl
      · rw [if_neg h, if_neg (fun e => h e.symm)]
    | nan t f => rfl
  | nan s f => cases b <;> rfl
theorem prod_comm (a b : Ieee.Datum) : a.product b = b.product a := by
  cases a with
  | number s m i =>
    cases b with
    | number t n j =>
      show some (Ieee.Datum.number (s ^^ t) (m * n) (i + j)) = some (Ieee.Datum.number (t ^^ s) (n * m) (j + i))
      rw [Bool.xor_comm, Nat.mul_comm, Int.add_comm]
    | infinity t =>
      show (if m = 0 then none else some (Ieee.Datum.infinity (t ^^ s))) = (if m = 0 then none else some (Ieee.Datum.infinity (t ^^ s)))
      rfl
    | nan t f => rfl
  | infinity s =>
    cases b with
    | number t n j => rfl
    | infinity t =>
      show some (Ieee.Datum.infinity (s ^^ t)) = some (Ieee.Datum.infinity (t ^^ s))
      rw [Bool.xor_comm]
    | nan t f => rfl
  | nan s f => cases b <;> rfl
theorem add_comm_w (x y : UInt64) : opOf .add x y = opOf .add y x := by
  unfold opOf floatBits
  have : FloatKind.f64.format.add (fb x) (fb y) = FloatKind.f64.format.add (fb y) (fb x) := by
    unfold Ieee.Format.add; rw [sum_comm]
  simp only [this]
theorem mul_comm_w (x y : UInt64) : opOf .mul x y = opOf .mul y x := by
  unfold opOf floatBits
  have : FloatKind.f64.format.mul (fb x) (fb y) = FloatKind.f64.format.mul (fb y) (fb x) := by
    unfold Ieee.Format.mul; rw [prod_comm]
  simp only [this]
theorem read_inf (n : Nat) (h : n % 9223372036854775808 = 9218868437227405312) : Ieee.double.read n = .infinity (n / 9223372036854775808 % 2 == 1) := by
  rw [read_dbl, if_neg (by omega), if_neg (by omega), if_pos h]
theorem read_nan (n : Nat) (h : 9218868437227405312 < n % 9223372036854775808) : ∃ s t, Ieee.double.read n = .nan s t := by
  rw [read_dbl, if_neg (by omega), if_neg (by omega), if_neg (by omega)]; exact ⟨_, _, rfl⟩
theorem word_self (n : Nat) (h : n < 18446744073709551616) : Ieee.double.word (n / 9223372036854775808 % 2 == 1) (n % 9223372036854775808) = n := by
  have hs : Ieee.double.signWeight = 9223372036854775808 := by decide
  unfold Ieee.Format.word
  rw [hs]
  by_cases hn : 9223372036854775808 ≤ n
  · have : (n / 9223372036854775808 % 2 == 1) = true := by rw [beq_iff_eq]; omega
    rw [this, if_pos rfl]; omega
  · have : (n / 9223372036854775808 % 2 == 1) = false := by rw [beq_eq_false_iff_ne]; omega
    rw [this, if_neg (by decide)]; omega
/-- The same value, written otherwise, is written back. -/
theorem nearest_same (neg : Bool) (a M : Nat) (P : Int) (h : a < 9218868437227405312) (h0 : a = 0 → M = 0) (hlo : P ≤ eN a → M = mN a * 2 ^ (eN a - P).toNat) (hhi : eN a ≤ P → mN a = M * 2 ^ (P - eN a).toNat) :
    Ieee.double.nearest neg M P = Ieee.double.word neg a := by
  obtain ⟨h1, h2, h3, h4, h5⟩ := place_nat a h
  by_cases hz : a = 0
  · rw [h0 hz, nearest_zero, hz]
  · have hm : mN a ≠ 0 := by unfold mN; split <;> omega
    rw [nearest_exact neg M P (mN a) (eN a) hm h4 h2 h3 hlo hhi, h1]
    congr 1; exact Nat.min_eq_left (by omega)
theorem read_one : Ieee.double.read 4607182418800017408 = .number false 4503599627370496 (-52) := by decide +kernel
theorem op_some {op : BinOp} {x y : UInt64} {r : Nat} (h : floatBits op .f64 (fb x) (fb y) = some r) : opOf op x y = canon (UInt64.ofNat r) := by unfold opOf; rw [h]
theorem op_none {op : BinOp} {x y : UInt64} (h : floatBits op .f64 (fb x) (fb y) = none) : opOf op x y = nanW := by unfold opOf; rw [h]
theorem ofNat_self (x : UInt64) : UInt64.ofNat x.toNat = x := UInt64.toNat_inj.1 (by rw [UInt64.toNat_ofNat', Nat.mod_eq_of_lt x.toNat_lt])
theorem nan_canon (x : UInt64) (h : 9218868437227405312 < magN x) : canon x = nanW := by
  rw [u_eq_lit, canon_nat, if_pos (show 9218868437227405312 < x.toNat % 9223372036854775808 from h)]; rfl
theorem m0_iff (a : Nat) : mN a = 0 ↔ a = 0 := by unfold mN; split <;> omega
theorem mul_one_w (x : UInt64) : opOf .mul x 4607182418800017408 = canon x := by
  have hx := lt64 x
  rcases Nat.lt_trichotomy (magN x) 9218868437227405312 with h | h | h
  · have hr := read_fin x.toNat h
    have : floatBits .mul .f64 (fb x) (fb 4607182418800017408) = some x.toNat := by
      show ((Ieee.double.read x.toNat).product (Ieee.double.read 4607182418800017408)).map Ieee.double.write = _
      rw [hr, read_one]
      show some (Ieee.double.nearest (_ ^^ false) (mN (magN x) * 4503599627370496) (eN (magN x) + -52)) = _
      rw [Bool.xor_false, nearest_same _ (magN x) _ _ h (fun hz => by rw [(m0_iff _).2 hz, Nat.zero_mul]) (fun hle => ?_) (fun hle => by omega)]
      · rw [show magN x = x.toNat % 9223372036854775808 from rfl, word_self _ hx]
      · rw [show (eN (magN x) - (eN (magN x) + -52)).toNat = 52 by omega]
    rw [op_some this, ofNat_self]
  · have hr := read_inf x.toNat h
    have : floatBits .mul .f64 (fb x) (fb 4607182418800017408) = some x.toNat := by
      show ((Ieee.double.read x.toNat).product (Ieee.double.read 4607182418800017408)).map Ieee.double.write = _
      rw [hr, read_one]
      show some (Ieee.double.word (_ ^^ false) Ieee.double.infRung) = _
      have h3 : Ieee.double.infRung = 9218868437227405312 := by decide
      rw [Bool.xor_false, h3, ← h, show magN x = x.toNat % 9223372036854775808 from rfl, word_self _ hx]
    rw [op_some this, ofNat_self]
  · obtain ⟨s, t, hr⟩ := read_nan x.toNat h
    have : floatBits .mul .f64 (fb x) (fb 4607182418800017408) = none := by
      show ((Ieee.double.read x.toNat).product (Ieee.double.read 4607182418800017408)).map Ieee.double.write = _
      rw [hr]; rfl
    rw [op_none this, nan_canon x h]
theorem quot_num (d : Nat) (s t : Bool) (m n : Nat) (i j : Int) : (Ieee.Datum.number s m i).quotient d (Ieee.Datum.number t n j) = if n = 0 then (if m = 0 then none else some (Ieee.Datum.infinity (s ^^ t))) else some (Ieee.Datum.number (s ^^ t) (2 * (m <<< (d + n.log2 - m.log2) / n) + (m <<< (d + n.log2 - m.log2) % n != 0).toNat) (i - j - ((d + n.log2 - m.log2 : Nat) : Int) - 1)) := rfl
theorem div_one_w (x : UInt64) : opOf .quo x 4607182418800017408 = canon x := by
  have hx := lt64 x
  rcases Nat.lt_trichotomy (magN x) 9218868437227405312 with h | h | h
  · have hr := read_fin x.toNat h
    have : floatBits .quo .f64 (fb x) (fb 4607182418800017408) = some x.toNat := by
      show ((Ieee.double.read x.toNat).quotient (Ieee.double.fractionBits + 2) (Ieee.double.read 4607182418800017408)).map Ieee.double.write = _
      rw [hr, read_one]
      have hl : (4503599627370496 : Nat).log2 = 52 := by decide
      have hlm : (mN (magN x)).log2 ≤ 52 := by
        have hb := (place_nat _ h).2.2.2.1
        by_cases hz : mN (magN x) = 0
        · rw [hz]; decide
        · have := (Nat.log2_lt hz (k := 53)).2 hb; omega
      obtain ⟨k, hk⟩ : ∃ k, 54 + 52 - (mN (magN x)).log2 = 52 + k := ⟨54 - (mN (magN x)).log2, by omega⟩
      have hk2 : 2 ≤ k := by omega
      have hdiv : mN (magN x) <<< (52 + k) = (mN (magN x) * 2 ^ k) * 4503599627370496 := by
        rw [Nat.shiftLeft_eq, Nat.pow_add, Nat.mul_comm (2 ^ 52), ← Nat.mul_assoc]
      have hq : mN (magN x) <<< (52 + k) / 4503599627370496 = mN (magN x) * 2 ^ k := by rw [hdiv]; exact Nat.mul_div_cancel _ (by decide)
      have hm : mN (magN x) <<< (52 + k) % 4503599627370496 = 0 := by rw [hdiv]; exact Nat.mul_mod_left _ _
      have hcalc : (Ieee.Datum.number (x.toNat / 9223372036854775808 % 2 == 1) (mN (magN x)) (eN (magN x))).quotient (Ieee.double.fractionBits + 2) (Ieee.Datum.number false 4503599627370496 (-52)) = some (Ieee.Datum.number (x.toNat / 9223372036854775808 % 2 == 1) (2 * (mN (magN x) * 2 ^ k)) (eN (magN x) - -52 - ((52 + k : Nat) : Int) - 1)) := by
        rw [quot_num, if_neg (by decide)]
        have hf : Ieee.double.fractionBits + 2 = 54 := by decide
        rw [hf, hl, hk]
        simp only [hq, hm, Bool.xor_false]
        congr 2
      have hcalc2 : (Ieee.Datum.number (x.toNat / 9223372036854775808 % 2 == 1) (mN (x.toNat % 9223372036854775808)) (eN (x.toNat % 9223372036854775808))).quotient (Ieee.double.fractionBits + 2) (Ieee.Datum.number false 4503599627370496 (-52)) = some (Ieee.Datum.number (x.toNat / 9223372036854775808 % 2 == 1) (2 * (mN (magN x) * 2 ^ k)) (eN (magN x) - -52 - ((52 + k : Nat) : Int) - 1)) := hcalc
      rw [hcalc2]
      show some (Ieee.double.nearest _ (2 * (mN (magN x) * 2 ^ k)) _) = _
      rw [nearest_same _ (magN x) _ _ h (fun hz => by rw [(m0_iff _).2 hz, Nat.zero_mul]) (fun hle => ?_) (fun hle => by omega)]
      · rw [show magN x = x.toNat % 9223372036854775808 from rfl, word_self _ hx]
      · rw [show (eN (magN x) - (eN (magN x) - -52 - ((52 + k : Nat) : Int) - 1)).toNat = k + 1 by omega, Nat.pow_succ, ← Nat.mul_assoc, Nat.mul_comm 2, Nat.mul_assoc, Nat.mul_comm 2 (2 ^ k)]
    rw [op_some this, ofNat_self]
  · have hr := read_inf x.toNat h
    have : floatBits .quo .f64 (fb x) (fb 4607182418800017408) = some x.toNat := by
      show ((Ieee.double.read x.toNat).quotient (Ieee.double.fractionBits + 2) (Ieee.double.read 4607182418800017408)).map Ieee.double.write = _
      rw [hr, read_one]
      show some (Ieee.double.word (_ ^^ false) Ieee.double.infRung) = _
      have h3 : Ieee.double.infRung = 9218868437227405312 := by decide
      rw [Bool.xor_false, h3, ← h, show magN x = x.toNat % 9223372036854775808 from rfl, word_self _ hx]
    rw [op_some this, ofNat_self]
  · obtain ⟨s, t, hr⟩ := read_nan x.toNat h
    have : floatBits .quo .f64 (fb x) (fb 4607182418800017408) = none := by
      show ((Ieee.double.read x.toNat).quotient (Ieee.double.fractionBits + 2) (Ieee.double.read 4607182418800017408)).map Ieee.double.write = _
      rw [hr]; rfl
    rw [op_none this, nan_canon x h]
/-- What is taken from itself. -/
theorem sub_self_w (x : UInt64) : (magN x < 9218868437227405312 → opOf .sub x x = 0) ∧ (¬ magN x < 9218868437227405312 → opOf .sub x x = nanW) := by
  constructor
  · intro h
    have hr := read_fin x.toNat h
    have : floatBits .sub .f64 (fb x) (fb x) = some 0 := by
      show ((Ieee.double.read x.toNat).sum (Ieee.double.read x.toNat).opposite).map Ieee.double.write = _
      rw [hr]
      generalize (x.toNat / 9223372036854775808 % 2 == 1) = s
      generalize mN (x.toNat % 9223372036854775808) = m
      generalize eN (x.toNat % 9223372036854775808) = i
      have ht : Ieee.signed s m (i - min i i).toNat + Ieee.signed (!s) m (i - min i i).toNat = 0 := by
        unfold Ieee.signed; cases s <;> simp <;> omega
      have hs : (Ieee.Datum.number s m i).sum (Ieee.Datum.number s m i).opposite = some (Ieee.Datum.number false 0 (min i i)) := by
        show some (Ieee.Datum.number (if Ieee.signed s m (i - min i i).toNat + Ieee.signed (!s) m (i - min i i).toNat = 0 then s && !s else decide (Ieee.signed s m (i - min i i).toNat + Ieee.signed (!s) m (i - min i i).toNat < 0)) (Ieee.signed s m (i - min i i).toNat + Ieee.signed (!s) m (i - min i i).toNat).natAbs (min i i)) = _
        rw [ht, if_pos rfl]; cases s <;> rfl
      rw [hs]
      show some (Ieee.double.nearest false 0 _) = _
      rw [nearest_zero]; rfl
    rw [op_some this]; decide +kernel
  · intro h
    have : floatBits .sub .f64 (fb x) (fb x) = none := by
      show ((Ieee.double.read x.toNat).sum (Ieee.double.read x.toNat).opposite).map Ieee.double.write = _
      rcases Nat.lt_or_ge 9218868437227405312 (magN x) with h2 | h2
      · obtain ⟨s, t, hr⟩ := read_nan x.toNat h2
        rw [hr]; rfl
      · have hr := read_inf x.toNat (show magN x = _ by omega)
        rw [hr]
        generalize (x.toNat / 9223372036854775808 % 2 == 1) = s
        cases s <;> rfl
    exact op_none this
theorem edge_iff (x : UInt64) : (classOf x = 0 ∨ classOf x = 1 ∨ classOf x = 8) ↔ ¬ magN x < 9218868437227405312 := by
  have hx := lt64 x
  rw [class_nat, canon_nat]
  by_cases h : 9218868437227405312 < x.toNat % 9223372036854775808
  · rw [if_pos h]
    have : clsN 9221120237041090560 = 0 := by decide
    rw [this]; unfold magN; simp; omega
  · rw [if_neg h]
    unfold clsN magN
    rw [if_neg h]
    by_cases h1 : x.toNat % 9223372036854775808 = 9218868437227405312
    · simp only [h1, if_true]; split <;> simp
    · simp only [h1, if_false]
      constructor
      · intro hc; exfalso; revert hc
        split <;> split <;> (try split) <;> decide
      · intro hc; omega
end Go.Proofs.YtachfcdkokndfaaDoor
