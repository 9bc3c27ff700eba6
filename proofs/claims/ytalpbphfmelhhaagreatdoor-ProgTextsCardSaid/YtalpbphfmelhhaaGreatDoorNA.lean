/-
  Floats: the bits of a float64 as a UInt64; the two functions that the model has in place. Plain facts of comparisons.
  The walks of num's small functions and of the reference's: Canon, Bits, Of, Class, Rank, Back, Compare.
  The walks of Class: num's and the reference's, case by case. Written by a program (gclass.py).
  The walks of num's arithmetic and order, and of the reference's.
  The walks of num's other operations, of the reference's Does, and of the sums of lists.
-/
import Derived.Test.YtalpbphfmelhhaaGreatDoorRows
import Derived.Test.YtalpbphfmelhhaaGreatDoorShelf
import Derived.Test.YtalpbphfmelhhaaGreatDoorK1
/-! ### Floats: the bits of a float64 as a UInt64; the two functions that the model has in place. Plain facts of comparisons. -/
namespace Go.Proofs.YtalpbphfmelhhaaGreatDoor
set_option maxRecDepth 100000
open Go.RowKit

/-- A float's bits. -/
def fb (x : UInt64) : Nat := x.toNat
theorem frombits0 (x : Int) (w : World) : (callFunc 97 #[.int .u64 x]).run Tryz.prog w = .ok (.value (.float .f64 x.toNat)) w := by kernel_rfl
theorem bits0 (x : Nat) (w : World) : (callFunc 70 #[.float .f64 x]).run Tryz.prog w = .ok (.value (.int .u64 (x : Int))) w := by kernel_rfl
theorem frombits (x : UInt64) (w : World) : (callFunc 97 #[.int .u64 (n64 x)]).run Tryz.prog w = .ok (.value (.float .f64 (fb x))) w := frombits0 _ w
theorem tobits (x : UInt64) (w : World) : (callFunc 70 #[.float .f64 (fb x)]).run Tryz.prog w = .ok (.value (.int .u64 (n64 x))) w := bits0 _ w


/-! ### What a word is -/
def nanB (x : UInt64) : Bool := decide (9218868437227405312 < x.toNat % 9223372036854775808)
theorem read_dbl (n : Nat) : Ieee.double.read n =
    if n % 9223372036854775808 < 4503599627370496 then .number (n / 9223372036854775808 % 2 == 1) (n % 9223372036854775808) (-1074)
    else if n % 9223372036854775808 < 9218868437227405312 then .number (n / 9223372036854775808 % 2 == 1) (4503599627370496 + n % 9223372036854775808 % 4503599627370496) (-1074 + ((n % 9223372036854775808 / 4503599627370496 - 1 : Nat) : Int))
    else if n % 9223372036854775808 = 9218868437227405312 then .infinity (n / 9223372036854775808 % 2 == 1)
    else .nan (n / 9223372036854775808 % 2 == 1) (n % 9223372036854775808 - 9218868437227405312) := by
  have h1 : Ieee.double.signWeight = 9223372036854775808 := by decide
  have h2 : Ieee.double.binade = 4503599627370496 := by decide
  have h3 : Ieee.double.infRung = 9218868437227405312 := by decide
  have h4 : Ieee.double.leastPlace = -1074 := by decide
  unfold Ieee.Format.read
  rw [h1, h2, h3, h4]
theorem order_self (n : Nat) : (Ieee.double.order n n != some .eq) = decide (9218868437227405312 < n % 9223372036854775808) := by
  unfold Ieee.Format.order
  rw [read_dbl]
  have hc : ∀ z : Int, compare z z = .eq := fun z => by simp
  by_cases h1 : n % 9223372036854775808 < 4503599627370496
  · rw [if_pos h1]; simp [Ieee.Datum.order]; omega
  · rw [if_neg h1]
    by_cases h2 : n % 9223372036854775808 < 9218868437227405312
    · rw [if_pos h2]; simp [Ieee.Datum.order]; omega
    · rw [if_neg h2]
      by_cases h3 : n % 9223372036854775808 = 9218868437227405312
      · rw [if_pos h3]; simp [Ieee.Datum.order]; omega
      · rw [if_neg h3, decide_eq_true (by omega)]; rfl
theorem neq_self (x : UInt64) : (FloatKind.f64.format.order (fb x) (fb x) != some .eq) = nanB x := order_self _

/-! ### What num and its reference compute, of the bits -/
def nanW : UInt64 := 0x7FF8000000000000
def topW : UInt64 := 0x8000000000000000
def canon (x : UInt64) : UInt64 := if nanB x then nanW else x
def expW (x : UInt64) : UInt64 := x >>> 52 &&& 2047
def fracW (x : UInt64) : UInt64 := x &&& 4503599627370495
/-- Class of a word that is Canon. -/
def classC (b : UInt64) : Int :=
  if expW b = 2047 ∧ fracW b ≠ 0 then 0
  else
    let k : Int := if expW b = 2047 then 8 else if 0 < expW b then 7 else if 0 < fracW b then 6 else 5
    if b &&& topW ≠ 0 then 9 - k else k
def classOf (x : UInt64) : Int := classC (canon x)
def rankC (b : UInt64) : UInt64 := if b &&& topW ≠ 0 then ~~~b else b ||| topW
def rankOf (x : UInt64) : UInt64 := rankC (canon x)
def backOf (r : UInt64) : UInt64 := if r &&& topW ≠ 0 then canon (r &&& ~~~topW) else canon (~~~r)
def cmpOf (a b : UInt64) : Int := if rankOf a < rankOf b then -1 else if rankOf b < rankOf a then 1 else 0

end Go.Proofs.YtalpbphfmelhhaaGreatDoor

/-! ### The walks of num's small functions and of the reference's: Canon, Bits, Of, Class, Rank, Back, Compare. -/
namespace Go.Proofs.YtalpbphfmelhhaaGreatDoor
set_option maxRecDepth 100000
open Go.RowKit
attribute [local go_sem] frombits tobits n64_and n64_or n64_xor n64_andNot
attribute [local go_sem high] un64_not
theorem fnan (w : World) : (callFunc 97 #[.int .u64 9221120237041090560]).run Tryz.prog w = .ok (.value (.float .f64 (fb nanW))) w := frombits0 _ w
theorem k_top (x : UInt64) : bits .and .u64 (n64 x) 9223372036854775808 = n64 (x &&& topW) := n64_and x topW
theorem k_ortop (x : UInt64) : bits .or .u64 (n64 x) 9223372036854775808 = n64 (x ||| topW) := n64_or x topW
theorem k_antop (x : UInt64) : bits .andNot .u64 (n64 x) 9223372036854775808 = n64 (x &&& ~~~topW) := n64_andNot x topW
theorem k_xortop (x : UInt64) : bits .xor .u64 (n64 x) 9223372036854775808 = n64 (x ^^^ topW) := n64_xor x topW
theorem k_2047 (x : UInt64) : bits .and .u64 (n64 x) 2047 = n64 (x &&& 2047) := n64_and x 2047
theorem k_frac (x : UInt64) : bits .and .u64 (n64 x) 4503599627370495 = n64 (x &&& 4503599627370495) := n64_and x 4503599627370495
theorem k_shr52 (x : UInt64) (yk : IntKind) : Op.shift .shr .u64 (n64 x) yk 52 = pure (.int .u64 (n64 (x >>> 52))) := sh64_shr x yk 52 (by omega) (by omega)
theorem z_neq (x : UInt64) : (n64 x != 0) = (x != 0) := by
  have h : (0 : Int) = n64 0 := rfl
  rw [h, bne, bne, n64_eq]
theorem z_eq (x : UInt64) : (n64 x == 0) = (x == 0) := by
  have h : (0 : Int) = n64 0 := rfl
  rw [h, n64_eq]
theorem zn_t {x : UInt64} (h : x ≠ 0) : (n64 x != 0) = true := by rw [z_neq]; simpa using h
theorem zn_f {x : UInt64} (h : x = 0) : (n64 x != 0) = false := by rw [z_neq, h]; rfl
theorem lt_t {x y : UInt64} (h : x < y) : decide (n64 x < n64 y) = true := by rw [n64_ltB]; simpa using h
theorem lt_f {x y : UInt64} (h : ¬ x < y) : decide (n64 x < n64 y) = false := by rw [n64_ltB]; simpa using h
theorem z_2047 (x : UInt64) : (n64 x == 2047) = (x == 2047) := by
  have h : (2047 : Int) = n64 2047 := rfl
  rw [h, n64_eq]
theorem z_pos (x : UInt64) : decide (0 < n64 x) = decide (0 < x) := by
  have h : (0 : Int) = n64 0 := rfl
  rw [h, n64_ltB]
attribute [local go_sem] k_top k_ortop k_antop k_xortop k_2047 k_frac fnan
attribute [local go_sem high] k_shr52

set_option maxHeartbeats 400000 in
theorem canon_any (x : UInt64) (w : World) : Calls Tryz.prog 122 #[.float .f64 (fb x)] w fun e w' => e = .returned (.float .f64 (fb (canon x))) ∧ w' = w := by
  have hn := neq_self x
  by_cases hx : nanB x = true
  · rw [hx] at hn
    have Hc : Hid (canon x = nanW) := by unfold canon; rw [if_pos hx]; exact rfl
    go_enter Tryz.func122, Tryz.ntmps122
    go_wp2
    go_ret
    exact ⟨by rw [Hc.out]; rfl, rfl⟩
  · have hx : nanB x = false := by simpa using hx
    rw [hx] at hn
    have Hc : Hid (canon x = x) := by unfold canon; rw [hx]; exact rfl
    go_enter Tryz.func122, Tryz.ntmps122
    go_wp2
    go_ret
    exact ⟨by rw [Hc.out]; rfl, rfl⟩

set_option maxHeartbeats 400000 in
theorem bitsF_any (x : UInt64) (w : World) : Calls Tryz.prog 100 #[.float .f64 (fb x)] w fun e w' => e = .returned (.int .u64 (n64 (canon x))) ∧ w' = w := by
  go_enter Tryz.func100, Tryz.ntmps100
  go_wp2_with (go_at_call 122; refine (canon_any _ _).mono ?_; rintro e w ⟨rfl, rfl⟩)
  go_ret
  exact ⟨rfl, rfl⟩

set_option maxHeartbeats 400000 in
theorem of_any (x : UInt64) (w : World) : Calls Tryz.prog 142 #[.int .u64 (n64 x)] w fun e w' => e = .returned (.float .f64 (fb (canon x))) ∧ w' = w := by
  go_enter Tryz.func142, Tryz.ntmps142
  go_wp2_with (go_at_call 122; refine (canon_any _ _).mono ?_; rintro e w ⟨rfl, rfl⟩)
  go_ret
  exact ⟨rfl, rfl⟩

set_option maxHeartbeats 400000 in
theorem rank_any (x : UInt64) (w : World) : Calls Tryz.prog 151 #[.float .f64 (fb x)] w fun e w' => e = .returned (.int .u64 (n64 (rankOf x))) ∧ w' = w := by
  have Hr : Hid (rankOf x = rankC (canon x)) := rfl
  have Hc : Hid (rankC (canon x) = if canon x &&& topW ≠ 0 then ~~~(canon x) else canon x ||| topW) := rfl
  by_cases h : canon x &&& topW = 0
  · have hz := zn_f h
    have Hv : Hid (rankOf x = canon x ||| topW) := by rw [Hr.out, Hc.out, if_neg (by simpa using h)]; exact rfl
    clear h
    go_enter Tryz.func151, Tryz.ntmps151
    go_wp2_with (go_at_call 100; refine (bitsF_any _ _).mono ?_; rintro e w ⟨rfl, rfl⟩)
    go_ret
    exact ⟨by rw [Hv.out]; rfl, rfl⟩
  · have hz := zn_t h
    have Hv : Hid (rankOf x = ~~~(canon x)) := by rw [Hr.out, Hc.out, if_pos h]; exact rfl
    clear h
    go_enter Tryz.func151, Tryz.ntmps151
    go_wp2_with (go_at_call 100; refine (bitsF_any _ _).mono ?_; rintro e w ⟨rfl, rfl⟩)
    go_ret
    exact ⟨by rw [Hv.out]; rfl, rfl⟩

set_option maxHeartbeats 400000 in
theorem compare_any (x y : UInt64) (w : World) : Calls Tryz.prog 123 #[.float .f64 (fb x), .float .f64 (fb y)] w fun e w' => e = .returned (.int .i64 (cmpOf x y)) ∧ w' = w := by
  have Hc : Hid (cmpOf x y = if rankOf x < rankOf y then -1 else if rankOf y < rankOf x then 1 else 0) := rfl
  by_cases hlt : rankOf x < rankOf y
  · have h1 := lt_t hlt
    have Hv : Hid (cmpOf x y = -1) := by rw [Hc.out, if_pos hlt]; exact rfl
    clear hlt
    go_enter Tryz.func123, Tryz.ntmps123
    go_wp2_with (go_at_call 151; refine (rank_any _ _).mono ?_; rintro e w ⟨rfl, rfl⟩)
    go_ret
    exact ⟨by rw [Hv.out]; rfl, rfl⟩
  · have h1 := lt_f hlt
    by_cases hgt : rankOf y < rankOf x
    · have h2 := lt_t hgt
      have Hv : Hid (cmpOf x y = 1) := by rw [Hc.out, if_neg hlt, if_pos hgt]; exact rfl
      clear hgt hlt
      go_enter Tryz.func123, Tryz.ntmps123
      go_wp2_with (go_at_call 151; refine (rank_any _ _).mono ?_; rintro e w ⟨rfl, rfl⟩)
      go_ret
      exact ⟨by rw [Hv.out]; rfl, rfl⟩
    · have h2 := lt_f hgt
      have Hv : Hid (cmpOf x y = 0) := by rw [Hc.out, if_neg hlt, if_neg hgt]; exact rfl
      clear hgt hlt
      go_enter Tryz.func123, Tryz.ntmps123
      go_wp2_with (go_at_call 151; refine (rank_any _ _).mono ?_; rintro e w ⟨rfl, rfl⟩)
      go_ret
      exact ⟨by rw [Hv.out]; rfl, rfl⟩
end Go.Proofs.YtalpbphfmelhhaaGreatDoor

/-! ### The walks of Class: num's and the reference's, case by case. Written by a program (gclass.py). -/
namespace Go.Proofs.YtalpbphfmelhhaaGreatDoor
set_option maxRecDepth 100000
open Go.RowKit
attribute [local go_sem] frombits tobits n64_and n64_or n64_xor n64_andNot
attribute [local go_sem high] un64_not
attribute [local go_sem] k_top k_ortop k_antop k_xortop k_2047 k_frac fnan
attribute [local go_sem high] k_shr52
theorem upos {x : UInt64} : 0 < x ↔ x ≠ 0 := by
  rw [UInt64.lt_iff_toNat_lt, ne_eq, ← UInt64.toNat_inj]; simp; omega

set_option maxHeartbeats 400000 in
theorem refBits_any (x : UInt64) (w : World) : Calls Tryz.prog 98 #[.float .f64 (fb x)] w fun e w' => e = .returned (.int .u64 (n64 (canon x))) ∧ w' = w := by
  have hn := neq_self x
  by_cases hx : nanB x = true
  · rw [hx] at hn
    have Hc : Hid (canon x = nanW) := by unfold canon; rw [if_pos hx]; exact rfl
    go_enter Tryz.func98, Tryz.ntmps98
    go_wp2
    go_ret
    exact ⟨by rw [Hc.out]; rfl, rfl⟩
  · have hx : nanB x = false := by simpa using hx
    rw [hx] at hn
    have Hc : Hid (canon x = x) := by unfold canon; rw [hx]; exact rfl
    go_enter Tryz.func98, Tryz.ntmps98
    go_wp2
    go_ret
    exact ⟨by rw [Hc.out]; rfl, rfl⟩

set_option maxHeartbeats 1600000 in
theorem class_any (x : UInt64) (w : World) : Calls Tryz.prog 101 #[.float .f64 (fb x)] w fun e w' => e = .returned (.int .i64 (classOf x)) ∧ w' = w := by
  by_cases he : expW (canon x) = 2047
  · have he0 : 0 < expW (canon x) := by rw [he]; decide
    have he1 : expW (canon x) ≠ 0 := by rw [he]; decide
    by_cases hf : fracW (canon x) = 0
    · have hf0 : ¬ 0 < fracW (canon x) := by rw [hf]; decide
      have hf1 : fracW (canon x) = 0 := hf
      by_cases hs : canon x &&& topW = 0
      · have q1 : (n64 (canon x >>> 52 &&& 2047) == 2047) = true := by rw [z_2047]; simpa [expW] using he
        have q2 : (n64 (canon x &&& 4503599627370495) != 0) = false := by rw [z_neq]; simpa [fracW] using hf
        have q3 : decide ((0 : Int) < n64 (canon x >>> 52 &&& 2047)) = true := by rw [z_pos]; simpa [expW] using he0
        have q4 : decide ((0 : Int) < n64 (canon x &&& 4503599627370495)) = false := by rw [z_pos]; simpa [fracW] using hf0
        have q5 : (n64 (canon x >>> 52 &&& 2047) == 0) = false := by rw [z_eq]; simpa [expW] using he1
        have q6 : (n64 (canon x &&& 4503599627370495) == 0) = true := by rw [z_eq]; simpa [fracW] using hf1
        have q7 : (n64 (canon x &&& topW) != 0) = false := by rw [z_neq]; simpa using hs
        have Hv : Hid (classOf x = 8) := by unfold classOf classC; simp only []; rw [if_neg (by rintro ⟨_, h⟩; exact h hf), if_pos he, if_neg (by simpa using hs)]; exact rfl
        clear he hf he0 hf0 he1 hf1 hs
        go_enter Tryz.func101, Tryz.ntmps101
        go_wp2_with (go_at_call 100; refine (bitsF_any _ _).mono ?_; rintro e w ⟨rfl, rfl⟩)
        go_ret
        exact ⟨by rw [Hv.out]; rfl, rfl⟩
      · have hs : canon x &&& topW ≠ 0 := hs
        have q1 : (n64 (canon x >>> 52 &&& 2047) == 2047) = true := by rw [z_2047]; simpa [expW] using he
        have q2 : (n64 (canon x &&& 4503599627370495) != 0) = false := by rw [z_neq]; simpa [fracW] using hf
        have q3 : decide ((0 : Int) < n64 (canon x >>> 52 &&& 2047)) = true := by rw [z_pos]; simpa [expW] using he0
        have q4 : decide ((0 : Int) < n64 (canon x &&& 4503599627370495)) = false := by rw [z_pos]; simpa [fracW] using hf0
        have q5 : (n64 (canon x >>> 52 &&& 2047) == 0) = false := by rw [z_eq]; simpa [expW] using he1
        have q6 : (n64 (canon x &&& 4503599627370495) == 0) = true := by rw [z_eq]; simpa [fracW] using hf1
        have q7 : (n64 (canon x &&& topW) != 0) = true := by rw [z_neq]; simpa using hs
        have Hv : Hid (classOf x = 1) := by unfold classOf classC; simp only []; rw [if_neg (by rintro ⟨_, h⟩; exact h hf), if_pos he, if_pos hs]; exact rfl
        clear he hf he0 hf0 he1 hf1 hs
        go_enter Tryz.func101, Tryz.ntmps101
        go_wp2_with (go_at_call 100; refine (bitsF_any _ _).mono ?_; rintro e w ⟨rfl, rfl⟩)
        go_ret
        exact ⟨by rw [Hv.out]; rfl, rfl⟩
    · have hf : fracW (canon x) ≠ 0 := hf
      have hf0 : 0 < fracW (canon x) := upos.2 hf
      have hf1 : fracW (canon x) ≠ 0 := hf
      have q1 : (n64 (canon x >>> 52 &&& 2047) == 2047) = true := by rw [z_2047]; simpa [expW] using he
      have q2 : (n64 (canon x &&& 4503599627370495) != 0) = true := by rw [z_neq]; simpa [fracW] using hf
      have q3 : decide ((0 : Int) < n64 (canon x >>> 52 &&& 2047)) = true := by rw [z_pos]; simpa [expW] using he0
      have q4 : decide ((0 : Int) < n64 (canon x &&& 4503599627370495)) = true := by rw [z_pos]; simpa [fracW] using hf0
      have q5 : (n64 (canon x >>> 52 &&& 2047) == 0) = false := by rw [z_eq]; simpa [expW] using he1
      have q6 : (n64 (canon x &&& 4503599627370495) == 0) = false := by rw [z_eq]; simpa [fracW] using hf1
      have Hv : Hid (classOf x = 0) := by unfold classOf classC; rw [if_pos ⟨he, by simpa using hf⟩]; exact rfl
      clear he hf he0 hf0 he1 hf1
      go_enter Tryz.func101, Tryz.ntmps101
      go_wp2_with (go_at_call 100; refine (bitsF_any _ _).mono ?_; rintro e w ⟨rfl, rfl⟩)
      go_ret
      exact ⟨by rw [Hv.out]; rfl, rfl⟩
  · have he : expW (canon x) ≠ 2047 := he
    by_cases he1 : expW (canon x) = 0
    · have he0 : ¬ 0 < expW (canon x) := by rw [he1]; decide
      by_cases hf : fracW (canon x) = 0
      · have hf0 : ¬ 0 < fracW (canon x) := by rw [hf]; decide
        have hf1 : fracW (canon x) = 0 := hf
        by_cases hs : canon x &&& topW = 0
        · have q1 : (n64 (canon x >>> 52 &&& 2047) == 2047) = false := by rw [z_2047]; simpa [expW] using he
          have q2 : (n64 (canon x &&& 4503599627370495) != 0) = false := by rw [z_neq]; simpa [fracW] using hf
          have q3 : decide ((0 : Int) < n64 (canon x >>> 52 &&& 2047)) = false := by rw [z_pos]; simpa [expW] using he0
          have q4 : decide ((0 : Int) < n64 (canon x &&& 4503599627370495)) = false := by rw [z_pos]; simpa [fracW] using hf0
          have q5 : (n64 (canon x >>> 52 &&& 2047) == 0) = true := by rw [z_eq]; simpa [expW] using he1
          have q6 : (n64 (canon x &&& 4503599627370495) == 0) = true := by rw [z_eq]; simpa [fracW] using hf1
          have q7 : (n64 (canon x &&& topW) != 0) = false := by rw [z_neq]; simpa using hs
          have Hv : Hid (classOf x = 5) := by unfold classOf classC; simp only []; rw [if_neg (by rintro ⟨h, _⟩; exact he h), if_neg he, if_neg he0, if_neg hf0, if_neg (by simpa using hs)]; exact rfl
          clear he hf he0 hf0 he1 hf1 hs
          go_enter Tryz.func101, Tryz.ntmps101
          go_wp2_with (go_at_call 100; refine (bitsF_any _ _).mono ?_; rintro e w ⟨rfl, rfl⟩)
          go_ret
          exact ⟨by rw [Hv.out]; rfl, rfl⟩
        · have hs : canon x &&& topW ≠ 0 := hs
          have q1 : (n64 (canon x >>> 52 &&& 2047) == 2047) = false := by rw [z_2047]; simpa [expW] using he
          have q2 : (n64 (canon x &&& 4503599627370495) != 0) = false := by rw [z_neq]; simpa [fracW] using hf
          have q3 : decide ((0 : Int) < n64 (canon x >>> 52 &&& 2047)) = false := by rw [z_pos]; simpa [expW] using he0
          have q4 : decide ((0 : Int) < n64 (canon x &&& 4503599627370495)) = false := by rw [z_pos]; simpa [fracW] using hf0
          have q5 : (n64 (canon x >>> 52 &&& 2047) == 0) = true := by rw [z_eq]; simpa [expW] using he1
          have q6 : (n64 (canon x &&& 4503599627370495) == 0) = true := by rw [z_eq]; simpa [fracW] using hf1
          have q7 : (n64 (canon x &&& topW) != 0) = true := by rw [z_neq]; simpa using hs
          have Hv : Hid (classOf x = 4) := by unfold classOf classC; simp only []; rw [if_neg (by rintro ⟨h, _⟩; exact he h), if_neg he, if_neg he0, if_neg hf0, if_pos hs]; exact rfl
          clear he hf he0 hf0 he1 hf1 hs
          go_enter Tryz.func101, Tryz.ntmps101
          go_wp2_with (go_at_call 100; refine (bitsF_any _ _).mono ?_; rintro e w ⟨rfl, rfl⟩)
          go_ret
          exact ⟨by rw [Hv.out]; rfl, rfl⟩
      · have hf : fracW (canon x) ≠ 0 := hf
        have hf0 : 0 < fracW (canon x) := upos.2 hf
        have hf1 : fracW (canon x) ≠ 0 := hf
        by_cases hs : canon x &&& topW = 0
        · have q1 : (n64 (canon x >>> 52 &&& 2047) == 2047) = false := by rw [z_2047]; simpa [expW] using he
          have q2 : (n64 (canon x &&& 4503599627370495) != 0) = true := by rw [z_neq]; simpa [fracW] using hf
          have q3 : decide ((0 : Int) < n64 (canon x >>> 52 &&& 2047)) = false := by rw [z_pos]; simpa [expW] using he0
          have q4 : decide ((0 : Int) < n64 (canon x &&& 4503599627370495)) = true := by rw [z_pos]; simpa [fracW] using hf0
          have q5 : (n64 (canon x >>> 52 &&& 2047) == 0) = true := by rw [z_eq]; simpa [expW] using he1
          have q6 : (n64 (canon x &&& 4503599627370495) == 0) = false := by rw [z_eq]; simpa [fracW] using hf1
          have q7 : (n64 (canon x &&& topW) != 0) = false := by rw [z_neq]; simpa using hs
          have Hv : Hid (classOf x = 6) := by unfold classOf classC; simp only []; rw [if_neg (by rintro ⟨h, _⟩; exact he h), if_neg he, if_neg he0, if_pos hf0, if_neg (by simpa using hs)]; exact rfl
          clear he hf he0 hf0 he1 hf1 hs
          go_enter Tryz.func101, Tryz.ntmps101
          go_wp2_with (go_at_call 100; refine (bitsF_any _ _).mono ?_; rintro e w ⟨rfl, rfl⟩)
          go_ret
          exact ⟨by rw [Hv.out]; rfl, rfl⟩
        · have hs : canon x &&& topW ≠ 0 := hs
          have q1 : (n64 (canon x >>> 52 &&& 2047) == 2047) = false := by rw [z_2047]; simpa [expW] using he
          have q2 : (n64 (canon x &&& 4503599627370495) != 0) = true := by rw [z_neq]; simpa [fracW] using hf
          have q3 : decide ((0 : Int) < n64 (canon x >>> 52 &&& 2047)) = false := by rw [z_pos]; simpa [expW] using he0
          have q4 : decide ((0 : Int) < n64 (canon x &&& 4503599627370495)) = true := by rw [z_pos]; simpa [fracW] using hf0
          have q5 : (n64 (canon x >>> 52 &&& 2047) == 0) = true := by rw [z_eq]; simpa [expW] using he1
          have q6 : (n64 (canon x &&& 4503599627370495) == 0) = false := by rw [z_eq]; simpa [fracW] using hf1
          have q7 : (n64 (canon x &&& topW) != 0) = true := by rw [z_neq]; simpa using hs
          have Hv : Hid (classOf x = 3) := by unfold classOf classC; simp only []; rw [if_neg (by rintro ⟨h, _⟩; exact he h), if_neg he, if_neg he0, if_pos hf0, if_pos hs]; exact rfl
          clear he hf he0 hf0 he1 hf1 hs
          go_enter Tryz.func101, Tryz.ntmps101
          go_wp2_with (go_at_call 100; refine (bitsF_any _ _).mono ?_; rintro e w ⟨rfl, rfl⟩)
          go_ret
          exact ⟨by rw [Hv.out]; rfl, rfl⟩
    · have he1 : expW (canon x) ≠ 0 := he1
      have he0 : 0 < expW (canon x) := upos.2 he1
      by_cases hf : fracW (canon x) = 0
      · have hf0 : ¬ 0 < fracW (canon x) := by rw [hf]; decide
        have hf1 : fracW (canon x) = 0 := hf
        by_cases hs : canon x &&& topW = 0
        · have q1 : (n64 (canon x >>> 52 &&& 2047) == 2047) = false := by rw [z_2047]; simpa [expW] using he
          have q2 : (n64 (canon x &&& 4503599627370495) != 0) = false := by rw [z_neq]; simpa [fracW] using hf
          have q3 : decide ((0 : Int) < n64 (canon x >>> 52 &&& 2047)) = true := by rw [z_pos]; simpa [expW] using he0
          have q4 : decide ((0 : Int) < n64 (canon x &&& 4503599627370495)) = false := by rw [z_pos]; simpa [fracW] using hf0
          have q5 : (n64 (canon x >>> 52 &&& 2047) == 0) = false := by rw [z_eq]; simpa [expW] using he1
          have q6 : (n64 (canon x &&& 4503599627370495) == 0) = true := by rw [z_eq]; simpa [fracW] using hf1
          have q7 : (n64 (canon x &&& topW) != 0) = false := by rw [z_neq]; simpa using hs
          have Hv : Hid (classOf x = 7) := by unfold classOf classC; simp only []; rw [if_neg (by rintro ⟨h, _⟩; exact he h), if_neg he, if_pos he0, if_neg (by simpa using hs)]; exact rfl
          clear he hf he0 hf0 he1 hf1 hs
          go_enter Tryz.func101, Tryz.ntmps101
          go_wp2_with (go_at_call 100; refine (bitsF_any _ _).mono ?_; rintro e w ⟨rfl, rfl⟩)
          go_ret
          exact ⟨by rw [Hv.out]; rfl, rfl⟩
        · have hs : canon x &&& topW ≠ 0 := hs
          have q1 : (n64 (canon x >>> 52 &&& 2047) == 2047) = false := by rw [z_2047]; simpa [expW] using he
          have q2 : (n64 (canon x &&& 4503599627370495) != 0) = false := by rw [z_neq]; simpa [fracW] using hf
          have q3 : decide ((0 : Int) < n64 (canon x >>> 52 &&& 2047)) = true := by rw [z_pos]; simpa [expW] using he0
          have q4 : decide ((0 : Int) < n64 (canon x &&& 4503599627370495)) = false := by rw [z_pos]; simpa [fracW] using hf0
          have q5 : (n64 (canon x >>> 52 &&& 2047) == 0) = false := by rw [z_eq]; simpa [expW] using he1
          have q6 : (n64 (canon x &&& 4503599627370495) == 0) = true := by rw [z_eq]; simpa [fracW] using hf1
          have q7 : (n64 (canon x &&& topW) != 0) = true := by rw [z_neq]; simpa using hs
          have Hv : Hid (classOf x = 2) := by unfold classOf classC; simp only []; rw [if_neg (by rintro ⟨h, _⟩; exact he h), if_neg he, if_pos he0, if_pos hs]; exact rfl
          clear he hf he0 hf0 he1 hf1 hs
          go_enter Tryz.func101, Tryz.ntmps101
          go_wp2_with (go_at_call 100; refine (bitsF_any _ _).mono ?_; rintro e w ⟨rfl, rfl⟩)
          go_ret
          exact ⟨by rw [Hv.out]; rfl, rfl⟩
      · have hf : fracW (canon x) ≠ 0 := hf
        have hf0 : 0 < fracW (canon x) := upos.2 hf
        have hf1 : fracW (canon x) ≠ 0 := hf
        by_cases hs : canon x &&& topW = 0
        · have q1 : (n64 (canon x >>> 52 &&& 2047) == 2047) = false := by rw [z_2047]; simpa [expW] using he
          have q2 : (n64 (canon x &&& 4503599627370495) != 0) = true := by rw [z_neq]; simpa [fracW] using hf
          have q3 : decide ((0 : Int) < n64 (canon x >>> 52 &&& 2047)) = true := by rw [z_pos]; simpa [expW] using he0
          have q4 : decide ((0 : Int) < n64 (canon x &&& 4503599627370495)) = true := by rw [z_pos]; simpa [fracW] using hf0
          have q5 : (n64 (canon x >>> 52 &&& 2047) == 0) = false := by rw [z_eq]; simpa [expW] using he1
          have q6 : (n64 (canon x &&& 4503599627370495) == 0) = false := by rw [z_eq]; simpa [fracW] using hf1
          have q7 : (n64 (canon x &&& topW) != 0) = false := by rw [z_neq]; simpa using hs
          have Hv : Hid (classOf x = 7) := by unfold classOf classC; simp only []; rw [if_neg (by rintro ⟨h, _⟩; exact he h), if_neg he, if_pos he0, if_neg (by simpa using hs)]; exact rfl
          clear he hf he0 hf0 he1 hf1 hs
          go_enter Tryz.func101, Tryz.ntmps101
          go_wp2_with (go_at_call 100; refine (bitsF_any _ _).mono ?_; rintro e w ⟨rfl, rfl⟩)
          go_ret
          exact ⟨by rw [Hv.out]; rfl, rfl⟩
        · have hs : canon x &&& topW ≠ 0 := hs
          have q1 : (n64 (canon x >>> 52 &&& 2047) == 2047) = false := by rw [z_2047]; simpa [expW] using he
          have q2 : (n64 (canon x &&& 4503599627370495) != 0) = true := by rw [z_neq]; simpa [fracW] using hf
          have q3 : decide ((0 : Int) < n64 (canon x >>> 52 &&& 2047)) = true := by rw [z_pos]; simpa [expW] using he0
          have q4 : decide ((0 : Int) < n64 (canon x &&& 4503599627370495)) = true := by rw [z_pos]; simpa [fracW] using hf0
          have q5 : (n64 (canon x >>> 52 &&& 2047) == 0) = false := by rw [z_eq]; simpa [expW] using he1
          have q6 : (n64 (canon x &&& 4503599627370495) == 0) = false := by rw [z_eq]; simpa [fracW] using hf1
          have q7 : (n64 (canon x &&& topW) != 0) = true := by rw [z_neq]; simpa using hs
          have Hv : Hid (classOf x = 2) := by unfold classOf classC; simp only []; rw [if_neg (by rintro ⟨h, _⟩; exact he h), if_neg he, if_pos he0, if_pos hs]; exact rfl
          clear he hf he0 hf0 he1 hf1 hs
          go_enter Tryz.func101, Tryz.ntmps101
          go_wp2_with (go_at_call 100; refine (bitsF_any _ _).mono ?_; rintro e w ⟨rfl, rfl⟩)
          go_ret
          exact ⟨by rw [Hv.out]; rfl, rfl⟩

set_option maxHeartbeats 1600000 in
theorem refClass_any (x : UInt64) (w : World) : Calls Tryz.prog 82 #[.float .f64 (fb x)] w fun e w' => e = .returned (.int .i64 (classOf x)) ∧ w' = w := by
  by_cases he : expW (canon x) = 2047
  · have he0 : 0 < expW (canon x) := by rw [he]; decide
    have he1 : expW (canon x) ≠ 0 := by rw [he]; decide
    by_cases hf : fracW (canon x) = 0
    · have hf0 : ¬ 0 < fracW (canon x) := by rw [hf]; decide
      have hf1 : fracW (canon x) = 0 := hf
      by_cases hs : canon x &&& topW = 0
      · have q1 : (n64 (canon x >>> 52 &&& 2047) == 2047) = true := by rw [z_2047]; simpa [expW] using he
        have q2 : (n64 (canon x &&& 4503599627370495) != 0) = false := by rw [z_neq]; simpa [fracW] using hf
        have q3 : decide ((0 : Int) < n64 (canon x >>> 52 &&& 2047)) = true := by rw [z_pos]; simpa [expW] using he0
        have q4 : decide ((0 : Int) < n64 (canon x &&& 4503599627370495)) = false := by rw [z_pos]; simpa [fracW] using hf0
        have q5 : (n64 (canon x >>> 52 &&& 2047) == 0) = false := by rw [z_eq]; simpa [expW] using he1
        have q6 : (n64 (canon x &&& 4503599627370495) == 0) = true := by rw [z_eq]; simpa [fracW] using hf1
        have q7 : (n64 (canon x &&& topW) != 0) = false := by rw [z_neq]; simpa using hs
        have Hv : Hid (classOf x = 8) := by unfold classOf classC; simp only []; rw [if_neg (by rintro ⟨_, h⟩; exact h hf), if_pos he, if_neg (by simpa using hs)]; exact rfl
        clear he hf he0 hf0 he1 hf1 hs
        go_enter Tryz.func82, Tryz.ntmps82
        go_wp2_with (go_at_call 98; refine (refBits_any _ _).mono ?_; rintro e w ⟨rfl, rfl⟩)
        go_ret
        exact ⟨by rw [Hv.out]; rfl, rfl⟩
      · have hs : canon x &&& topW ≠ 0 := hs
        have q1 : (n64 (canon x >>> 52 &&& 2047) == 2047) = true := by rw [z_2047]; simpa [expW] using he
        have q2 : (n64 (canon x &&& 4503599627370495) != 0) = false := by rw [z_neq]; simpa [fracW] using hf
        have q3 : decide ((0 : Int) < n64 (canon x >>> 52 &&& 2047)) = true := by rw [z_pos]; simpa [expW] using he0
        have q4 : decide ((0 : Int) < n64 (canon x &&& 4503599627370495)) = false := by rw [z_pos]; simpa [fracW] using hf0
        have q5 : (n64 (canon x >>> 52 &&& 2047) == 0) = false := by rw [z_eq]; simpa [expW] using he1
        have q6 : (n64 (canon x &&& 4503599627370495) == 0) = true := by rw [z_eq]; simpa [fracW] using hf1
        have q7 : (n64 (canon x &&& topW) != 0) = true := by rw [z_neq]; simpa using hs
        have Hv : Hid (classOf x = 1) := by unfold classOf classC; simp only []; rw [if_neg (by rintro ⟨_, h⟩; exact h hf), if_pos he, if_pos hs]; exact rfl
        clear he hf he0 hf0 he1 hf1 hs
        go_enter Tryz.func82, Tryz.ntmps82
        go_wp2_with (go_at_call 98; refine (refBits_any _ _).mono ?_; rintro e w ⟨rfl, rfl⟩)
        go_ret
        exact ⟨by rw [Hv.out]; rfl, rfl⟩
    · have hf : fracW (canon x) ≠ 0 := hf
      have hf0 : 0 < fracW (canon x) := upos.2 hf
      have hf1 : fracW (canon x) ≠ 0 := hf
      have q1 : (n64 (canon x >>> 52 &&& 2047) == 2047) = true := by rw [z_2047]; simpa [expW] using he
      have q2 : (n64 (canon x &&& 4503599627370495) != 0) = true := by rw [z_neq]; simpa [fracW] using hf
      have q3 : decide ((0 : Int) < n64 (canon x >>> 52 &&& 2047)) = true := by rw [z_pos]; simpa [expW] using he0
      have q4 : decide ((0 : Int) < n64 (canon x &&& 4503599627370495)) = true := by rw [z_pos]; simpa [fracW] using hf0
      have q5 : (n64 (canon x >>> 52 &&& 2047) == 0) = false := by rw [z_eq]; simpa [expW] using he1
      have q6 : (n64 (canon x &&& 4503599627370495) == 0) = false := by rw [z_eq]; simpa [fracW] using hf1
      have Hv : Hid (classOf x = 0) := by unfold classOf classC; rw [if_pos ⟨he, by simpa using hf⟩]; exact rfl
      clear he hf he0 hf0 he1 hf1
      go_enter Tryz.func82, Tryz.ntmps82
      go_wp2_with (go_at_call 98; refine (refBits_any _ _).mono ?_; rintro e w ⟨rfl, rfl⟩)
      go_ret
      exact ⟨by rw [Hv.out]; rfl, rfl⟩
  · have he : expW (canon x) ≠ 2047 := he
    by_cases he1 : expW (canon x) = 0
    · have he0 : ¬ 0 < expW (canon x) := by rw [he1]; decide
      by_cases hf : fracW (canon x) = 0
      · have hf0 : ¬ 0 < fracW (canon x) := by rw [hf]; decide
        have hf1 : fracW (canon x) = 0 := hf
        by_cases hs : canon x &&& topW = 0
        · have q1 : (n64 (canon x >>> 52 &&& 2047) == 2047) = false := by rw [z_2047]; simpa [expW] using he
          have q2 : (n64 (canon x &&& 4503599627370495) != 0) = false := by rw [z_neq]; simpa [fracW] using hf
          have q3 : decide ((0 : Int) < n64 (canon x >>> 52 &&& 2047)) = false := by rw [z_pos]; simpa [expW] using he0
          have q4 : decide ((0 : Int) < n64 (canon x &&& 4503599627370495)) = false := by rw [z_pos]; simpa [fracW] using hf0
          have q5 : (n64 (canon x >>> 52 &&& 2047) == 0) = true := by rw [z_eq]; simpa [expW] using he1
          have q6 : (n64 (canon x &&& 4503599627370495) == 0) = true := by rw [z_eq]; simpa [fracW] using hf1
          have q7 : (n64 (canon x &&& topW) != 0) = false := by rw [z_neq]; simpa using hs
          have Hv : Hid (classOf x = 5) := by unfold classOf classC; simp only []; rw [if_neg (by rintro ⟨h, _⟩; exact he h), if_neg he, if_neg he0, if_neg hf0, if_neg (by simpa using hs)]; exact rfl
          clear he hf he0 hf0 he1 hf1 hs
          go_enter Tryz.func82, Tryz.ntmps82
          go_wp2_with (go_at_call 98; refine (refBits_any _ _).mono ?_; rintro e w ⟨rfl, rfl⟩)
          go_ret
          exact ⟨by rw [Hv.out]; rfl, rfl⟩
        · have hs : canon x &&& topW ≠ 0 := hs
          have q1 : (n64 (canon x >>> 52 &&& 2047) == 2047) = false := by rw [z_2047]; simpa [expW] using he
          have q2 : (n64 (canon x &&& 4503599627370495) != 0) = false := by rw [z_neq]; simpa [fracW] using hf
          have q3 : decide ((0 : Int) < n64 (canon x >>> 52 &&& 2047)) = false := by rw [z_pos]; simpa [expW] using he0
          have q4 : decide ((0 : Int) < n64 (canon x &&& 4503599627370495)) = false := by rw [z_pos]; simpa [fracW] using hf0
          have q5 : (n64 (canon x >>> 52 &&& 2047) == 0) = true := by rw [z_eq]; simpa [expW] using he1
          have q6 : (n64 (canon x &&& 4503599627370495) == 0) = true := by rw [z_eq]; simpa [fracW] using hf1
          have q7 : (n64 (canon x &&& topW) != 0) = true := by rw [z_neq]; simpa using hs
          have Hv : Hid (classOf x = 4) := by unfold classOf classC; simp only []; rw [if_neg (by rintro ⟨h, _⟩; exact he h), if_neg he, if_neg he0, if_neg hf0, if_pos hs]; exact rfl
          clear he hf he0 hf0 he1 hf1 hs
          go_enter Tryz.func82, Tryz.ntmps82
          go_wp2_with (go_at_call 98; refine (refBits_any _ _).mono ?_; rintro e w ⟨rfl, rfl⟩)
          go_ret
          exact ⟨by rw [Hv.out]; rfl, rfl⟩
      · have hf : fracW (canon x) ≠ 0 := hf
        have hf0 : 0 < fracW (canon x) := upos.2 hf
        have hf1 : fracW (canon x) ≠ 0 := hf
        by_cases hs : canon x &&& topW = 0
        · have q1 : (n64 (canon x >>> 52 &&& 2047) == 2047) = false := by rw [z_2047]; simpa [expW] using he
          have q2 : (n64 (canon x &&& 4503599627370495) != 0) = true := by rw [z_neq]; simpa [fracW] using hf
          have q3 : decide ((0 : Int) < n64 (canon x >>> 52 &&& 2047)) = false := by rw [z_pos]; simpa [expW] using he0
          have q4 : decide ((0 : Int) < n64 (canon x &&& 4503599627370495)) = true := by rw [z_pos]; simpa [fracW] using hf0
          have q5 : (n64 (canon x >>> 52 &&& 2047) == 0) = true := by rw [z_eq]; simpa [expW] using he1
          have q6 : (n64 (canon x &&& 4503599627370495) == 0) = false := by rw [z_eq]; simpa [fracW] using hf1
          have q7 : (n64 (canon x &&& topW) != 0) = false := by rw [z_neq]; simpa using hs
          have Hv : Hid (classOf x = 6) := by unfold classOf classC; simp only []; rw [if_neg (by rintro ⟨h, _⟩; exact he h), if_neg he, if_neg he0, if_pos hf0, if_neg (by simpa using hs)]; exact rfl
          clear he hf he0 hf0 he1 hf1 hs
          go_enter Tryz.func82, Tryz.ntmps82
          go_wp2_with (go_at_call 98; refine (refBits_any _ _).mono ?_; rintro e w ⟨rfl, rfl⟩)
          go_ret
          exact ⟨by rw [Hv.out]; rfl, rfl⟩
        · have hs : canon x &&& topW ≠ 0 := hs
          have q1 : (n64 (canon x >>> 52 &&& 2047) == 2047) = false := by rw [z_2047]; simpa [expW] using he
          have q2 : (n64 (canon x &&& 4503599627370495) != 0) = true := by rw [z_neq]; simpa [fracW] using hf
          have q3 : decide ((0 : Int) < n64 (canon x >>> 52 &&& 2047)) = false := by rw [z_pos]; simpa [expW] using he0
          have q4 : decide ((0 : Int) < n64 (canon x &&& 4503599627370495)) = true := by rw [z_pos]; simpa [fracW] using hf0
          have q5 : (n64 (canon x >>> 52 &&& 2047) == 0) = true := by rw [z_eq]; simpa [expW] using he1
          have q6 : (n64 (canon x &&& 4503599627370495) == 0) = false := by rw [z_eq]; simpa [fracW] using hf1
          have q7 : (n64 (canon x &&& topW) != 0) = true := by rw [z_neq]; simpa using hs
          have Hv : Hid (classOf x = 3) := by unfold classOf classC; simp only []; rw [if_neg (by rintro ⟨h, _⟩; exact he h), if_neg he, if_neg he0, if_pos hf0, if_pos hs]; exact rfl
          clear he hf he0 hf0 he1 hf1 hs
          go_enter Tryz.func82, Tryz.ntmps82
          go_wp2_with (go_at_call 98; refine (refBits_any _ _).mono ?_; rintro e w ⟨rfl, rfl⟩)
          go_ret
          exact ⟨by rw [Hv.out]; rfl, rfl⟩
    · have he1 : expW (canon x) ≠ 0 := he1
      have he0 : 0 < expW (canon x) := upos.2 he1
      by_cases hf : fracW (canon x) = 0
      · have hf0 : ¬ 0 < fracW (canon x) := by rw [hf]; decide
        have hf1 : fracW (canon x) = 0 := hf
        by_cases hs : canon x &&& topW = 0
        · have q1 : (n64 (canon x >>> 52 &&& 2047) == 2047) = false := by rw [z_2047]; simpa [expW] using he
          have q2 : (n64 (canon x &&& 4503599627370495) != 0) = false := by rw [z_neq]; simpa [fracW] using hf
          have q3 : decide ((0 : Int) < n64 (canon x >>> 52 &&& 2047)) = true := by rw [z_pos]; simpa [expW] using he0
          have q4 : decide ((0 : Int) < n64 (canon x &&& 4503599627370495)) = false := by rw [z_pos]; simpa [fracW] using hf0
          have q5 : (n64 (canon x >>> 52 &&& 2047) == 0) = false := by rw [z_eq]; simpa [expW] using he1
          have q6 : (n64 (canon x &&& 4503599627370495) == 0) = true := by rw [z_eq]; simpa [fracW] using hf1
          have q7 : (n64 (canon x &&& topW) != 0) = false := by rw [z_neq]; simpa using hs
          have Hv : Hid (classOf x = 7) := by unfold classOf classC; simp only []; rw [if_neg (by rintro ⟨h, _⟩; exact he h), if_neg he, if_pos he0, if_neg (by simpa using hs)]; exact rfl
          clear he hf he0 hf0 he1 hf1 hs
          go_enter Tryz.func82, Tryz.ntmps82
          go_wp2_with (go_at_call 98; refine (refBits_any _ _).mono ?_; rintro e w ⟨rfl, rfl⟩)
          go_ret
          exact ⟨by rw [Hv.out]; rfl, rfl⟩
        · have hs : canon x &&& topW ≠ 0 := hs
          have q1 : (n64 (canon x >>> 52 &&& 2047) == 2047) = false := by rw [z_2047]; simpa [expW] using he
          have q2 : (n64 (canon x &&& 4503599627370495) != 0) = false := by rw [z_neq]; simpa [fracW] using hf
          have q3 : decide ((0 : Int) < n64 (canon x >>> 52 &&& 2047)) = true := by rw [z_pos]; simpa [expW] using he0
          have q4 : decide ((0 : Int) < n64 (canon x &&& 4503599627370495)) = false := by rw [z_pos]; simpa [fracW] using hf0
          have q5 : (n64 (canon x >>> 52 &&& 2047) == 0) = false := by rw [z_eq]; simpa [expW] using he1
          have q6 : (n64 (canon x &&& 4503599627370495) == 0) = true := by rw [z_eq]; simpa [fracW] using hf1
          have q7 : (n64 (canon x &&& topW) != 0) = true := by rw [z_neq]; simpa using hs
          have Hv : Hid (classOf x = 2) := by unfold classOf classC; simp only []; rw [if_neg (by rintro ⟨h, _⟩; exact he h), if_neg he, if_pos he0, if_pos hs]; exact rfl
          clear he hf he0 hf0 he1 hf1 hs
          go_enter Tryz.func82, Tryz.ntmps82
          go_wp2_with (go_at_call 98; refine (refBits_any _ _).mono ?_; rintro e w ⟨rfl, rfl⟩)
          go_ret
          exact ⟨by rw [Hv.out]; rfl, rfl⟩
      · have hf : fracW (canon x) ≠ 0 := hf
        have hf0 : 0 < fracW (canon x) := upos.2 hf
        have hf1 : fracW (canon x) ≠ 0 := hf
        by_cases hs : canon x &&& topW = 0
        · have q1 : (n64 (canon x >>> 52 &&& 2047) == 2047) = false := by rw [z_2047]; simpa [expW] using he
          have q2 : (n64 (canon x &&& 4503599627370495) != 0) = true := by rw [z_neq]; simpa [fracW] using hf
          have q3 : decide ((0 : Int) < n64 (canon x >>> 52 &&& 2047)) = true := by rw [z_pos]; simpa [expW] using he0
          have q4 : decide ((0 : Int) < n64 (canon x &&& 4503599627370495)) = true := by rw [z_pos]; simpa [fracW] using hf0
          have q5 : (n64 (canon x >>> 52 &&& 2047) == 0) = false := by rw [z_eq]; simpa [expW] using he1
          have q6 : (n64 (canon x &&& 4503599627370495) == 0) = false := by rw [z_eq]; simpa [fracW] using hf1
          have q7 : (n64 (canon x &&& topW) != 0) = false := by rw [z_neq]; simpa using hs
          have Hv : Hid (classOf x = 7) := by unfold classOf classC; simp only []; rw [if_neg (by rintro ⟨h, _⟩; exact he h), if_neg he, if_pos he0, if_neg (by simpa using hs)]; exact rfl
          clear he hf he0 hf0 he1 hf1 hs
          go_enter Tryz.func82, Tryz.ntmps82
          go_wp2_with (go_at_call 98; refine (refBits_any _ _).mono ?_; rintro e w ⟨rfl, rfl⟩)
          go_ret
          exact ⟨by rw [Hv.out]; rfl, rfl⟩
        · have hs : canon x &&& topW ≠ 0 := hs
          have q1 : (n64 (canon x >>> 52 &&& 2047) == 2047) = false := by rw [z_2047]; simpa [expW] using he
          have q2 : (n64 (canon x &&& 4503599627370495) != 0) = true := by rw [z_neq]; simpa [fracW] using hf
          have q3 : decide ((0 : Int) < n64 (canon x >>> 52 &&& 2047)) = true := by rw [z_pos]; simpa [expW] using he0
          have q4 : decide ((0 : Int) < n64 (canon x &&& 4503599627370495)) = true := by rw [z_pos]; simpa [fracW] using hf0
          have q5 : (n64 (canon x >>> 52 &&& 2047) == 0) = false := by rw [z_eq]; simpa [expW] using he1
          have q6 : (n64 (canon x &&& 4503599627370495) == 0) = false := by rw [z_eq]; simpa [fracW] using hf1
          have q7 : (n64 (canon x &&& topW) != 0) = true := by rw [z_neq]; simpa using hs
          have Hv : Hid (classOf x = 2) := by unfold classOf classC; simp only []; rw [if_neg (by rintro ⟨h, _⟩; exact he h), if_neg he, if_pos he0, if_pos hs]; exact rfl
          clear he hf he0 hf0 he1 hf1 hs
          go_enter Tryz.func82, Tryz.ntmps82
          go_wp2_with (go_at_call 98; refine (refBits_any _ _).mono ?_; rintro e w ⟨rfl, rfl⟩)
          go_ret
          exact ⟨by rw [Hv.out]; rfl, rfl⟩

end Go.Proofs.YtalpbphfmelhhaaGreatDoor

/-! ### The walks of num's arithmetic and order, and of the reference's. -/
namespace Go.Proofs.YtalpbphfmelhhaaGreatDoor
set_option maxRecDepth 100000
open Go.RowKit
attribute [local go_sem] frombits tobits n64_and n64_or n64_xor n64_andNot
attribute [local go_sem high] un64_not
attribute [local go_sem] k_top k_ortop k_antop k_xortop k_2047 k_frac fnan
attribute [local go_sem high] k_shr52

/-! ### An operation on two floats -/
/-- Canon of the sum, difference, product, quotient. -/
def opOf (op : BinOp) (a b : UInt64) : UInt64 := match floatBits op .f64 (fb a) (fb b) with | some r => canon (UInt64.ofNat r) | none => nanW
theorem nan_cut (t : Nat) : nanB (UInt64.ofNat ((t % 2) * 2 ^ 63 + 0x7ff0000000000000 + 1 + (t / 2) % (2 ^ 52 - 1))) = true := by
  unfold nanB
  rw [UInt64.toNat_ofNat']
  have h2 : t / 2 % (2 ^ 52 - 1) < 2 ^ 52 - 1 := Nat.mod_lt _ (by decide)
  simp only [decide_eq_true_eq]
  rcases Nat.mod_two_eq_zero_or_one t with h | h <;> rw [h] <;> omega
theorem cut_nan (x y t : Nat) : Question.cut (.nanBits .f64 x y) t = (t % 2) * 2 ^ 63 + 0x7ff0000000000000 + 1 + (t / 2) % (2 ^ 52 - 1) := rfl
theorem run_fl {P : Program} (op : BinOp) (hop : op = .add ∨ op = .sub ∨ op = .mul ∨ op = .quo) (t : TypeId) (a b : UInt64) (w : World) :
    ∃ q nd, (binOp op t (.float .f64 (fb a)) (.float .f64 (fb b))).run P w = .ok (.float .f64 (fb q)) (w.drewN nd) ∧ canon q = opOf op a b := by
  cases h : floatBits op .f64 (fb a) (fb b) with
  | some r =>
    refine ⟨UInt64.ofNat r, 0, ?_, by unfold opOf; rw [h]⟩
    rw [run_float_arith w op t .f64 _ _ r h]
    have hr : r < 18446744073709551616 := by
      have := floatBits_wf h
      simpa [Lit.wf] using this
    have : fb (UInt64.ofNat r) = r := by unfold fb; rw [UInt64.toNat_ofNat', Nat.mod_eq_of_lt (by omega)]
    rw [this]; rfl
  | none =>
    have hc := cut_nan (fb a) (fb b) (w.tape w.drawn (.nanBits .f64 (fb a) (fb b)))
    have hn := nan_cut (w.tape w.drawn (.nanBits .f64 (fb a) (fb b)))
    rw [← hc] at hn
    have hlt : Question.cut (.nanBits .f64 (fb a) (fb b)) (w.tape w.drawn (.nanBits .f64 (fb a) (fb b))) < 18446744073709551616 := by
      rw [hc]
      have h2 : (w.tape w.drawn (.nanBits .f64 (fb a) (fb b))) / 2 % (2 ^ 52 - 1) < 2 ^ 52 - 1 := Nat.mod_lt _ (by decide)
      have h3 := Nat.mod_lt (w.tape w.drawn (.nanBits .f64 (fb a) (fb b))) (show 0 < 2 by decide)
      omega
    clear hc
    have hrun : (binOp op t (.float .f64 (fb a)) (.float .f64 (fb b))).run P w = .ok (.float .f64 (Question.cut (.nanBits .f64 (fb a) (fb b)) (w.tape w.drawn (.nanBits .f64 (fb a) (fb b))))) (w.drewN 1) := by
      rcases hop with rfl | rfl | rfl | rfl <;> (unfold floatBits at h; simp only at h; simp [binOp, Op.floatArith, h, Question.forced]; rfl)
    generalize Question.cut (.nanBits .f64 (fb a) (fb b)) (w.tape w.drawn (.nanBits .f64 (fb a) (fb b))) = q at *
    refine ⟨UInt64.ofNat q, 1, ?_, ?_⟩
    · have e : fb (UInt64.ofNat q) = q := by unfold fb; rw [UInt64.toNat_ofNat', Nat.mod_eq_of_lt (by omega)]
      rw [e]; exact hrun
    · unfold opOf; rw [h]
      unfold canon
      rw [if_pos hn]

/-- A call that draws at most. -/
def Quiet (w : World) (v : Value) (e : Ending) (w' : World) : Prop := e = .returned v ∧ ∃ nd, w' = w.drewN nd

set_option maxHeartbeats 400000 in
theorem refCanon_any (x : UInt64) (w : World) : Calls Tryz.prog 66 #[.float .f64 (fb x)] w fun e w' => e = .returned (.float .f64 (fb (canon x))) ∧ w' = w := by
  go_enter Tryz.func66, Tryz.ntmps66
  go_wp2_with (go_at_call 98; refine (refBits_any _ _).mono ?_; rintro e w ⟨rfl, rfl⟩)
  go_ret
  exact ⟨rfl, rfl⟩
set_option maxHeartbeats 400000 in
theorem refOf_any (x : UInt64) (w : World) : Calls Tryz.prog 113 #[.int .u64 (n64 x)] w fun e w' => e = .returned (.float .f64 (fb (canon x))) ∧ w' = w := by
  go_enter Tryz.func113, Tryz.ntmps113
  go_wp2_with (go_at_call 66; refine (refCanon_any _ _).mono ?_; rintro e w ⟨rfl, rfl⟩)
  go_ret
  exact ⟨rfl, rfl⟩
set_option maxHeartbeats 400000 in
theorem refRank_any (x : UInt64) (w : World) : Calls Tryz.prog 141 #[.float .f64 (fb x)] w fun e w' => e = .returned (.int .u64 (n64 (rankOf x))) ∧ w' = w := by
  have Hr : Hid (rankOf x = rankC (canon x)) := rfl
  have Hc : Hid (rankC (canon x) = if canon x &&& topW ≠ 0 then ~~~(canon x) else canon x ||| topW) := rfl
  by_cases h : canon x &&& topW = 0
  · have hz := zn_f h
    have Hv : Hid (rankOf x = canon x ||| topW) := by rw [Hr.out, Hc.out, if_neg (by simpa using h)]; exact rfl
    clear h
    go_enter Tryz.func141, Tryz.ntmps141
    go_wp2_with (go_at_call 98; refine (refBits_any _ _).mono ?_; rintro e w ⟨rfl, rfl⟩)
    go_ret
    exact ⟨by rw [Hv.out]; rfl, rfl⟩
  · have hz := zn_t h
    have Hv : Hid (rankOf x = ~~~(canon x)) := by rw [Hr.out, Hc.out, if_pos h]; exact rfl
    clear h
    go_enter Tryz.func141, Tryz.ntmps141
    go_wp2_with (go_at_call 98; refine (refBits_any _ _).mono ?_; rintro e w ⟨rfl, rfl⟩)
    go_ret
    exact ⟨by rw [Hv.out]; rfl, rfl⟩
theorem top_cases (x : UInt64) (h : x &&& topW ≠ 0) : x ^^^ topW = x &&& ~~~topW := by
  have hx := x.toNat_lt
  have e1 : (x &&& topW).toNat = x.toNat / 9223372036854775808 % 2 * 9223372036854775808 := by
    rw [UInt64.toNat_and, show topW.toNat = 2 ^ 63 from rfl, nat_bit]
  have h1 : x.toNat / 9223372036854775808 % 2 = 1 := by
    rcases Nat.mod_two_eq_zero_or_one (x.toNat / 9223372036854775808) with h0 | h0
    · exfalso; apply h; apply UInt64.toNat_inj.1; rw [e1, h0]; rfl
    · exact h0
  have key : topW = x &&& topW := by
    apply UInt64.toNat_inj.1; rw [e1, h1]; rfl
  have id1 : ∀ a t : UInt64, a ^^^ (a &&& t) = a &&& ~~~t := by
    intro a t
    apply UInt64.toBitVec_inj.1
    simp only [UInt64.toBitVec_xor, UInt64.toBitVec_and, UInt64.toBitVec_not]
    generalize a.toBitVec = p
    generalize t.toBitVec = q
    ext i hi
    simp only [BitVec.getElem_xor, BitVec.getElem_and, BitVec.getElem_not]
    cases p[i] <;> cases q[i] <;> rfl
  conv => lhs; rw [key]
  exact id1 x topW
set_option maxHeartbeats 400000 in
theorem refCompare_any (x y : UInt64) (w : World) : Calls Tryz.prog 108 #[.float .f64 (fb x), .float .f64 (fb y)] w fun e w' => e = .returned (.int .i64 (cmpOf x y)) ∧ w' = w := by
  have Hc : Hid (cmpOf x y = if rankOf x < rankOf y then -1 else if rankOf y < rankOf x then 1 else 0) := rfl
  by_cases hlt : rankOf x < rankOf y
  · have h1 := lt_t hlt
    have Hv : Hid (cmpOf x y = -1) := by rw [Hc.out, if_pos hlt]; exact rfl
    clear hlt
    go_enter Tryz.func108, Tryz.ntmps108
    go_wp2_with (go_at_call 141; refine (refRank_any _ _).mono ?_; rintro e w ⟨rfl, rfl⟩)
    go_ret
    exact ⟨by rw [Hv.out]; rfl, rfl⟩
  · have h1 := lt_f hlt
    by_cases hgt : rankOf y < rankOf x
    · have h2 := lt_t hgt
      have Hv : Hid (cmpOf x y = 1) := by rw [Hc.out, if_neg hlt, if_pos hgt]; exact rfl
      clear hgt hlt
      go_enter Tryz.func108, Tryz.ntmps108
      go_wp2_with (go_at_call 141; refine (refRank_any _ _).mono ?_; rintro e w ⟨rfl, rfl⟩)
      go_ret
      exact ⟨by rw [Hv.out]; rfl, rfl⟩
    · have h2 := lt_f hgt
      have Hv : Hid (cmpOf x y = 0) := by rw [Hc.out, if_neg hlt, if_neg hgt]; exact rfl
      clear hgt hlt
      go_enter Tryz.func108, Tryz.ntmps108
      go_wp2_with (go_at_call 141; refine (refRank_any _ _).mono ?_; rintro e w ⟨rfl, rfl⟩)
      go_ret
      exact ⟨by rw [Hv.out]; rfl, rfl⟩
set_option maxHeartbeats 400000 in
theorem rbits_any (x y : UInt64) (w : World) : Calls Tryz.prog 65 #[.float .f64 (fb x), .float .f64 (fb y)] w fun e w' => e = .returned (.bool (x == y)) ∧ w' = w := by
  have hb := n64_eq x y
  go_enter Tryz.func65, Tryz.ntmps65
  go_wp2
  go_ret
  exact ⟨rfl, rfl⟩

def leastOf (a b : UInt64) : UInt64 := if 0 < cmpOf a b then canon b else canon a
def mostOf (a b : UInt64) : UInt64 := if cmpOf a b < 0 then canon b else canon a
set_option maxHeartbeats 400000 in
theorem least_any (x y : UInt64) (w : World) : Calls Tryz.prog 128 #[.float .f64 (fb x), .float .f64 (fb y)] w fun e w' => e = .returned (.float .f64 (fb (leastOf x y))) ∧ w' = w := by
  have Hl : Hid (leastOf x y = if 0 < cmpOf x y then canon y else canon x) := rfl
  by_cases h : 0 < cmpOf x y
  · have Hv : Hid (leastOf x y = canon y) := by rw [Hl.out, if_pos h]; exact rfl
    have h1 : decide ((0 : Int) < cmpOf x y) = true := by simpa using h
    clear h
    go_enter Tryz.func128, Tryz.ntmps128
    go_wp2_with (first | (go_at_call 123; refine (compare_any _ _ _).mono ?_; rintro e w ⟨rfl, rfl⟩) | (go_at_call 122; refine (canon_any _ _).mono ?_; rintro e w ⟨rfl, rfl⟩))
    go_ret
    exact ⟨by rw [Hv.out]; rfl, rfl⟩
  · have Hv : Hid (leastOf x y = canon x) := by rw [Hl.out, if_neg h]; exact rfl
    have h1 : decide ((0 : Int) < cmpOf x y) = false := by simpa using h
    clear h
    go_enter Tryz.func128, Tryz.ntmps128
    go_wp2_with (first | (go_at_call 123; refine (compare_any _ _ _).mono ?_; rintro e w ⟨rfl, rfl⟩) | (go_at_call 122; refine (canon_any _ _).mono ?_; rintro e w ⟨rfl, rfl⟩))
    go_ret
    exact ⟨by rw [Hv.out]; rfl, rfl⟩
set_option maxHeartbeats 400000 in
theorem most_any (x y : UInt64) (w : World) : Calls Tryz.prog 129 #[.float .f64 (fb x), .float .f64 (fb y)] w fun e w' => e = .returned (.float .f64 (fb (mostOf x y))) ∧ w' = w := by
  have Hl : Hid (mostOf x y = if cmpOf x y < 0 then canon y else canon x) := rfl
  by_cases h : cmpOf x y < 0
  · have Hv : Hid (mostOf x y = canon y) := by rw [Hl.out, if_pos h]; exact rfl
    have h1 : decide (cmpOf x y < 0) = true := by simpa using h
    clear h
    go_enter Tryz.func129, Tryz.ntmps129
    go_wp2_with (first | (go_at_call 123; refine (compare_any _ _ _).mono ?_; rintro e w ⟨rfl, rfl⟩) | (go_at_call 122; refine (canon_any _ _).mono ?_; rintro e w ⟨rfl, rfl⟩))
    go_ret
    exact ⟨by rw [Hv.out]; rfl, rfl⟩
  · have Hv : Hid (mostOf x y = canon x) := by rw [Hl.out, if_neg h]; exact rfl
    have h1 : decide (cmpOf x y < 0) = false := by simpa using h
    clear h
    go_enter Tryz.func129, Tryz.ntmps129
    go_wp2_with (first | (go_at_call 123; refine (compare_any _ _ _).mono ?_; rintro e w ⟨rfl, rfl⟩) | (go_at_call 122; refine (canon_any _ _).mono ?_; rintro e w ⟨rfl, rfl⟩))
    go_ret
    exact ⟨by rw [Hv.out]; rfl, rfl⟩
set_option maxHeartbeats 400000 in
theorem add_any (x y : UInt64) (w : World) : Calls Tryz.prog 124 #[.float .f64 (fb x), .float .f64 (fb y)] w (Quiet w (.float .f64 (fb (opOf .add x y)))) := by
  obtain ⟨q, nd, hrun, hq⟩ := run_fl (P := Tryz.prog) .add (by simp) 46 x y w
  have Hq := Lib.hid hq; clear hq
  go_enter Tryz.func124, Tryz.ntmps124
  go_wp2_with (go_at_call 122; refine (canon_any _ _).mono ?_; rintro e w1 ⟨rfl, rfl⟩)
  go_ret
  exact ⟨by rw [Hq.out]; rfl, nd, rfl⟩
end Go.Proofs.YtalpbphfmelhhaaGreatDoor

/-! ### The walks of num's other operations, of the reference's Does, and of the sums of lists. -/
namespace Go.Proofs.YtalpbphfmelhhaaGreatDoor
set_option maxRecDepth 100000
open Go.RowKit

set_option maxHeartbeats 400000 in
theorem sub_any (x y : UInt64) (w : World) : Calls Tryz.prog 125 #[.float .f64 (fb x), .float .f64 (fb y)] w (Quiet w (.float .f64 (fb (opOf .sub x y)))) := by
  obtain ⟨q, nd, hrun, hq⟩ := run_fl (P := Tryz.prog) .sub (by simp) 46 x y w
  have Hq := Lib.hid hq; clear hq
  go_enter Tryz.func125, Tryz.ntmps125
  go_wp2_with (go_at_call 122; refine (canon_any _ _).mono ?_; rintro e w1 ⟨rfl, rfl⟩)
  go_ret
  exact ⟨by rw [Hq.out]; rfl, nd, rfl⟩

set_option maxHeartbeats 400000 in
theorem mul_any (x y : UInt64) (w : World) : Calls Tryz.prog 126 #[.float .f64 (fb x), .float .f64 (fb y)] w (Quiet w (.float .f64 (fb (opOf .mul x y)))) := by
  obtain ⟨q, nd, hrun, hq⟩ := run_fl (P := Tryz.prog) .mul (by simp) 46 x y w
  have Hq := Lib.hid hq; clear hq
  go_enter Tryz.func126, Tryz.ntmps126
  go_wp2_with (go_at_call 122; refine (canon_any _ _).mono ?_; rintro e w1 ⟨rfl, rfl⟩)
  go_ret
  exact ⟨by rw [Hq.out]; rfl, nd, rfl⟩

set_option maxHeartbeats 400000 in
theorem div_any (x y : UInt64) (w : World) : Calls Tryz.prog 127 #[.float .f64 (fb x), .float .f64 (fb y)] w (Quiet w (.float .f64 (fb (opOf .quo x y)))) := by
  obtain ⟨q, nd, hrun, hq⟩ := run_fl (P := Tryz.prog) .quo (by simp) 46 x y w
  have Hq := Lib.hid hq; clear hq
  go_enter Tryz.func127, Tryz.ntmps127
  go_wp2_with (go_at_call 122; refine (canon_any _ _).mono ?_; rintro e w1 ⟨rfl, rfl⟩)
  go_ret
  exact ⟨by rw [Hq.out]; rfl, nd, rfl⟩

set_option maxHeartbeats 400000 in
theorem does0_any (x y : UInt64) (w : World) : Calls Tryz.prog 86 #[.int .i64 0, .float .f64 (fb x), .float .f64 (fb y)] w (Quiet w (.float .f64 (fb (opOf .add x y)))) := by
  obtain ⟨q, nd, hrun, hq⟩ := run_fl (P := Tryz.prog) .add (by simp) 46 x y w
  have Hq := Lib.hid hq; clear hq
  go_enter Tryz.func86, Tryz.ntmps86
  go_wp2_with (go_at_call 66; refine (refCanon_any _ _).mono ?_; rintro e w1 ⟨rfl, rfl⟩)
  go_ret
  exact ⟨by rw [Hq.out]; rfl, nd, rfl⟩

set_option maxHeartbeats 400000 in
theorem does1_any (x y : UInt64) (w : World) : Calls Tryz.prog 86 #[.int .i64 1, .float .f64 (fb x), .float .f64 (fb y)] w (Quiet w (.float .f64 (fb (opOf .sub x y)))) := by
  obtain ⟨q, nd, hrun, hq⟩ := run_fl (P := Tryz.prog) .sub (by simp) 46 x y w
  have Hq := Lib.hid hq; clear hq
  go_enter Tryz.func86, Tryz.ntmps86
  go_wp2_with (go_at_call 66; refine (refCanon_any _ _).mono ?_; rintro e w1 ⟨rfl, rfl⟩)
  go_ret
  exact ⟨by rw [Hq.out]; rfl, nd, rfl⟩

set_option maxHeartbeats 400000 in
theorem does2_any (x y : UInt64) (w : World) : Calls Tryz.prog 86 #[.int .i64 2, .float .f64 (fb x), .float .f64 (fb y)] w (Quiet w (.float .f64 (fb (opOf .mul x y)))) := by
  obtain ⟨q, nd, hrun, hq⟩ := run_fl (P := Tryz.prog) .mul (by simp) 46 x y w
  have Hq := Lib.hid hq; clear hq
  go_enter Tryz.func86, Tryz.ntmps86
  go_wp2_with (go_at_call 66; refine (refCanon_any _ _).mono ?_; rintro e w1 ⟨rfl, rfl⟩)
  go_ret
  exact ⟨by rw [Hq.out]; rfl, nd, rfl⟩

set_option maxHeartbeats 400000 in
theorem does3_any (x y : UInt64) (w : World) : Calls Tryz.prog 86 #[.int .i64 3, .float .f64 (fb x), .float .f64 (fb y)] w (Quiet w (.float .f64 (fb (opOf .quo x y)))) := by
  obtain ⟨q, nd, hrun, hq⟩ := run_fl (P := Tryz.prog) .quo (by simp) 46 x y w
  have Hq := Lib.hid hq; clear hq
  go_enter Tryz.func86, Tryz.ntmps86
  go_wp2_with (go_at_call 66; refine (refCanon_any _ _).mono ?_; rintro e w1 ⟨rfl, rfl⟩)
  go_ret
  exact ⟨by rw [Hq.out]; rfl, nd, rfl⟩

set_option maxHeartbeats 400000 in
theorem does4_any (x y : UInt64) (w : World) : Calls Tryz.prog 86 #[.int .i64 4, .float .f64 (fb x), .float .f64 (fb y)] w fun e w' => e = .returned (.float .f64 (fb (leastOf x y))) ∧ w' = w := by
  by_cases h : cmpOf x y ≤ 0
  · have Hv : Hid (leastOf x y = canon x) := by unfold leastOf; rw [if_neg (by omega)]; exact rfl
    have h1 : decide (cmpOf x y ≤ 0) = true := by simpa using h
    clear h
    go_enter Tryz.func86, Tryz.ntmps86
    go_wp2_with (first | (go_at_call 108; refine (refCompare_any _ _ _).mono ?_; rintro e w ⟨rfl, rfl⟩) | (go_at_call 66; refine (refCanon_any _ _).mono ?_; rintro e w ⟨rfl, rfl⟩))
    go_ret
    exact ⟨by rw [Hv.out]; rfl, rfl⟩
  · have Hv : Hid (leastOf x y = canon y) := by unfold leastOf; rw [if_pos (by omega)]; exact rfl
    have h1 : decide (cmpOf x y ≤ 0) = false := by simpa using h
    clear h
    go_enter Tryz.func86, Tryz.ntmps86
    go_wp2_with (first | (go_at_call 108; refine (refCompare_any _ _ _).mono ?_; rintro e w ⟨rfl, rfl⟩) | (go_at_call 66; refine (refCanon_any _ _).mono ?_; rintro e w ⟨rfl, rfl⟩))
    go_ret
    exact ⟨by rw [Hv.out]; rfl, rfl⟩

set_option maxHeartbeats 400000 in
theorem does5_any (x y : UInt64) (w : World) : Calls Tryz.prog 86 #[.int .i64 5, .float .f64 (fb x), .float .f64 (fb y)] w fun e w' => e = .returned (.float .f64 (fb (mostOf x y))) ∧ w' = w := by
  by_cases h : 0 ≤ cmpOf x y
  · have Hv : Hid (mostOf x y = canon x) := by unfold mostOf; rw [if_neg (by omega)]; exact rfl
    have h1 : decide ((0 : Int) ≤ cmpOf x y) = true := by simpa using h
    clear h
    go_enter Tryz.func86, Tryz.ntmps86
    go_wp2_with (first | (go_at_call 108; refine (refCompare_any _ _ _).mono ?_; rintro e w ⟨rfl, rfl⟩) | (go_at_call 66; refine (refCanon_any _ _).mono ?_; rintro e w ⟨rfl, rfl⟩))
    go_ret
    exact ⟨by rw [Hv.out]; rfl, rfl⟩
  · have Hv : Hid (mostOf x y = canon y) := by unfold mostOf; rw [if_pos (by omega)]; exact rfl
    have h1 : decide ((0 : Int) ≤ cmpOf x y) = false := by simpa using h
    clear h
    go_enter Tryz.func86, Tryz.ntmps86
    go_wp2_with (first | (go_at_call 108; refine (refCompare_any _ _ _).mono ?_; rintro e w ⟨rfl, rfl⟩) | (go_at_call 66; refine (refCanon_any _ _).mono ?_; rintro e w ⟨rfl, rfl⟩))
    go_ret
    exact ⟨by rw [Hv.out]; rfl, rfl⟩


/-! ### Lists of floats -/
def BF (l : List UInt64) : List Value := l.map fun x => Value.float .f64 (fb x)
theorem BF_get (l : List UInt64) (j : Nat) (h : j < l.length) : (BF l)[j]? = some (.float .f64 (fb (l.getD j 0))) := by
  simp [BF, List.getD, h]
/-- A slice of floats reads as l. -/
def RdF (w : World) (a : Option Addr) (n cap : Nat) (l : List UInt64) : Prop := n = l.length ∧ Rd w a n cap 1 (BF l)
theorem RdF.below {w w' : World} {a : Option Addr} {n cap : Nat} {l : List UInt64} (h : RdF w a n cap l) (hb : Below w.heap.size w w') : RdF w' a n cap l := ⟨h.1, h.2.below hb⟩
theorem RdF.at {w : World} {a : Option Addr} {n cap : Nat} {l : List UInt64} (h : RdF w a n cap l) (hn : 0 < l.length) :
    ∃ b off, a = some ⟨b, off, none⟩ ∧ b < w.heap.size ∧ ∀ j, j < l.length → w.cell? ⟨b, off + j, none⟩ = some (.float .f64 (fb (l.getD j 0))) := by
  obtain ⟨rfl, h⟩ := h
  obtain ⟨b, off, ha, hb, hc⟩ := h.at (by omega)
  exact ⟨b, off, ha, hb, fun j hj => hc j _ (BF_get l j hj)⟩

/-- The sum of the first k. -/
def sumTo (l : List UInt64) : Nat → UInt64
  | 0 => 0
  | k + 1 => if k = 0 then canon (l.getD 0 0) else opOf .add (sumTo l k) (l.getD k 0)
def sumOf (l : List UInt64) : UInt64 := sumTo l l.length

end Go.Proofs.YtalpbphfmelhhaaGreatDoor
