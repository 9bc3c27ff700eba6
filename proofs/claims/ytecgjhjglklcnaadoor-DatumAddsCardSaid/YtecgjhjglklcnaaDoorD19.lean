/-
  Plain laws of float arithmetic: sums turned round; what is added to nought. No program in sight.
-/
import Derived.Test.YtecgjhjglklcnaaDoorWA
import Derived.Laws.FloatArith
namespace Go.Proofs.YtecgjhjglklcnaaDoor
open Go.RowKit Go.Shelf Go.Sort
def magN (x : UInt64) : Nat := x.toNat % 9223372036854775808
theorem lt64 (x : UInt64) : x.toNat < 18446744073709551616 := x.toNat_lt
theorem sum_comm (a b : Ieee.Datum) : a.sum b = b.sum a := by
  cases a with
  | number s m i =>
    cases b with
    | number t n j =>
      show (let base := min i j; let total := Ieee.signed s m (i - base).toNat + Ieee.signed t n (j - base).toNat; some (Ieee.Datum.number (if total = 0 then s && t else total < 0) total.natAbs base)) = (let base := min j i; let total := Ieee.signed t n (j - base).toNat + Ieee.signed s m (i - base).toNat; some (Ieee.Datum.number (if total = 0 then t && s else total < 0) total.natAbs base))
      simp only [Int.min_comm j i, Int.add_comm (Ieee.signed t n _), Bool.and_comm t s]
    | infinity t => rfl
    | nan t f => rfl
  | infinity s =>
    cases b with
    | number t n j => rfl
    | infinity t =>
      show (if s = t then _ else _) = (if t = s then _ else _)
      by_cases h : s = t
      · subst h; rfl
      · rw [if_neg h, if_neg (fun e => h e.symm)]
    | nan t f => rfl
  | nan s f => cases b <;> rfl
theorem add_comm_w (x y : UInt64) : opOf .add x y = opOf .add y x := by
  unfold opOf floatBits
  have : FloatKind.f64.format.add (fb x) (fb y) = FloatKind.f64.format.add (fb y) (fb x) := by
    unfold Ieee.Format.add; rw [sum_comm]
  simp only [this]
theorem read_inf (n : Nat) (h : n % 9223372036854775808 = 9218868437227405312) : Ieee.double.read n = .infinity (n / 9223372036854775808 % 2 == 1) := by
  rw [read_dbl, if_neg (by omega), if_neg (by omega), if_pos h]
theorem read_nan (n : Nat) (h : 9218868437227405312 < n % 9223372036854775808) : ∃ s t, Ieee.double.read n = .nan s t := by
  rw [read_dbl, if_neg (by omega), if_neg (by omega), if_neg (by omega)]; exact ⟨_, _, rfl⟩
theorem word_self (n : Nat) (h : n < 18446744073709551616) : Ieee.double.word (n / 9223372036854775808 % 2 == 1) (n % 9223372036854775808) = n := by
  have hs : Ieee.double.signWeight = 9223372036854775808 := by decide
  unfold Ieee.Format.word
  rw [hs]
  by_cases hn : 9223372036854775808 ≤ n
  · have : (n / 9223372036854775808 % 2 == 1) = true := by rw [beq_iff_eq]; omega
    rw [this, if_pos rfl]; omega
  · have : (n / 9223372036854775808 % 2 == 1) = false := by rw [beq_eq_false_iff_ne]; omega
    rw [this, if_neg (by decide)]; omega
/-- The same value, written otherwise, is written back. -/
theorem nearest_same (neg : Bool) (a M : Nat) (P : Int) (h : a < 9218868437227405312) (h0 : a = 0 → M = 0) (hlo : P ≤ eN a → M = mN a * 2 ^ (eN a - P).toNat) (hhi : eN a ≤ P → mN a = M * 2 ^ (P - eN a).toNat) :
    Ieee.double.nearest neg M P = Ieee.double.word neg a := by
  obtain ⟨h1, h2, h3, h4, h5⟩ := place_nat a h
  by_cases hz : a = 0
  · rw [h0 hz, nearest_zero, hz]
  · have hm : mN a ≠ 0 := by unfold mN; split <;> omega
    rw [nearest_exact neg M P (mN a) (eN a) hm h4 h2 h3 hlo hhi, h1]
    congr 1; exact Nat.min_eq_left (by omega)
theorem op_some {op : BinOp} {x y : UInt64} {r : Nat} (h : floatBits op .f64 (fb x) (fb y) = some r) : opOf op x y = canon (UInt64.ofNat r) := by unfold opOf; rw [h]
theorem op_none {op : BinOp} {x y : UInt64} (h : floatBits op .f64 (fb x) (fb y) = none) : opOf op x y = nanW := by unfold opOf; rw [h]
theorem ofNat_self (x : UInt64) : UInt64.ofNat x.toNat = x := UInt64.toNat_inj.1 (by rw [UInt64.toNat_ofNat', Nat.mod_eq_of_lt x.toNat_lt])
theorem nan_canon (x : UInt64) (h : 9218868437227405312 < magN x) : canon x = nanW := by
  rw [u_eq_lit, canon_nat, if_pos (show 9218868437227405312 < x.toNat % 9223372036854775808 from h)]; rfl
theorem m0_iff (a : Nat) : mN a = 0 ↔ a = 0 := by unfold mN; split <;> omega
theorem read_zero : Ieee.double.read 0 = .number false 0 (-1074) := by decide +kernel
theorem sum_zero (s : Bool) (m : Nat) (e : Int) (he : -1074 ≤ e) : (Ieee.Datum.number s m e).sum (.number false 0 (-1074)) = some (.number (if m = 0 then false else s) (m * 2 ^ (e + 1074).toNat) (-1074)) := by
  have hb : min e (-1074) = -1074 := by omega
  show some (Ieee.Datum.number (if Ieee.signed s m (e - min e (-1074)).toNat + Ieee.signed false 0 (-1074 - min e (-1074)).toNat = 0 then s && false else decide (Ieee.signed s m (e - min e (-1074)).toNat + Ieee.signed false 0 (-1074 - min e (-1074)).toNat < 0)) (Ieee.signed s m (e - min e (-1074)).toNat + Ieee.signed false 0 (-1074 - min e (-1074)).toNat).natAbs (min e (-1074))) = _
  rw [hb, show (e - -1074).toNat = (e + 1074).toNat by omega]
  have hp : 0 < 2 ^ (e + 1074).toNat := Nat.pow_pos (by decide)
  generalize hq : (e + 1074).toNat = q at *
  have h0 : Ieee.signed false 0 (-1074 - -1074 : Int).toNat = 0 := by decide
  rw [h0]
  have hs : Ieee.signed s m q = if s then -((m * 2 ^ q : Nat) : Int) else ((m * 2 ^ q : Nat) : Int) := by
    unfold Ieee.signed; rw [Nat.shiftLeft_eq]
  rw [hs]
  by_cases hm : m = 0
  · subst hm; cases s <;> simp
  · have hpos : 0 < m * 2 ^ q := Nat.mul_pos (by omega) hp
    generalize m * 2 ^ q = N at *
    rw [if_neg hm]
    cases s
    · simp; try omega
    · simp; try omega
theorem add_zero_w (x : UInt64) : opOf .add x 0 = if magN x = 0 then 0 else canon x := by
  have hx := lt64 x
  rcases Nat.lt_trichotomy (magN x) 9218868437227405312 with h | h | h
  · have hr := read_fin x.toNat h
    obtain ⟨p1, p2, p3, p4, p5⟩ := place_nat (magN x) h
    have : floatBits .add .f64 (fb x) (fb 0) = some (if magN x = 0 then 0 else x.toNat) := by
      show ((Ieee.double.read x.toNat).sum (Ieee.double.read 0)).map Ieee.double.write = _
      rw [hr, read_zero, sum_zero _ _ (eN (x.toNat % 9223372036854775808)) p2]
      show some (Ieee.double.nearest _ _ _) = _
      by_cases hz : magN x = 0
      · have hm : mN (x.toNat % 9223372036854775808) = 0 := (m0_iff _).2 hz
        rw [if_pos hm, if_pos hz, hm, Nat.zero_mul, nearest_zero]; rfl
      · have hm : mN (x.toNat % 9223372036854775808) ≠ 0 := fun e => hz ((m0_iff _).1 e)
        rw [if_neg hm, if_neg hz, nearest_same _ (magN x) _ _ h (fun e => absurd e hz) (fun _ => ?_) (fun hle => ?_)]
        · rw [show magN x = x.toNat % 9223372036854775808 from rfl, word_self _ hx]
        · rw [show eN (magN x) - -1074 = eN (magN x) + 1074 by omega]; rfl
        · have e0 : eN (magN x) = -1074 := by omega
          show mN (magN x) = mN (magN x) * 2 ^ (eN (magN x) + 1074).toNat * 2 ^ (-1074 - eN (magN x)).toNat
          rw [e0]; simp
    rw [op_some this]
    split
    · decide +kernel
    · rw [ofNat_self]
  · have hr := read_inf x.toNat h
    have : floatBits .add .f64 (fb x) (fb 0) = some x.toNat := by
      show ((Ieee.double.read x.toNat).sum (Ieee.double.read 0)).map Ieee.double.write = _
      rw [hr, read_zero]
      show some (Ieee.double.write (.infinity _)) = _
      have hw : x.toNat = 9218868437227405312 ∨ x.toNat = 18442240474082181120 := by have : magN x = x.toNat % 9223372036854775808 := rfl; omega
      rcases hw with e | e <;> rw [e] <;> decide +kernel
    rw [op_some this, ofNat_self, if_neg (by omega)]
  · obtain ⟨s, t, hr⟩ := read_nan x.toNat h
    have : floatBits .add .f64 (fb x) (fb 0) = none := by
      show ((Ieee.double.read x.toNat).sum (Ieee.double.read 0)).map Ieee.double.write = _
      rw [hr]; rfl
    rw [op_none this, if_neg (by omega), nan_canon x h]
end Go.Proofs.YtecgjhjglklcnaaDoor
