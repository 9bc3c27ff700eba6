/-
  The walks of the small functions on bytes: plain, digit, the reference's digit and value.
-/
import Derived.Test.YtecgjhjglklcnaaDoorD4
namespace Go.Proofs.YtecgjhjglklcnaaDoor
set_option maxRecDepth 100000
open Go.RowKit Go.Shelf Go.Sort
attribute [local go_sem] bs_size bs_get bs_toList
/-- Does a byte stand as it is? -/
def plainZ (n : Int) : Bool := decide (32 ≤ n) && decide (n ≤ 126) && !(n == 34) && !(n == 92)
set_option maxHeartbeats 400000 in
theorem plain_any (n : Int) (_h0 : 0 ≤ n) (_h1 : n ≤ 255) (w : World) : Calls Tryd.prog 51 #[.int .u8 n] w fun e w' => e = .returned (.bool (plainZ n)) ∧ w' = w := by
  have HV : Hid (plainZ n = (decide (32 ≤ n) && decide (n ≤ 126) && !(n == 34) && !(n == 92))) := rfl
  cases a1 : decide (32 ≤ n)
  case' true => cases a2 : decide (n ≤ 126)
  case' true.true => cases a3 : (n == 34)
  case' true.true.false => cases a4 : (n == 92)
  case' false => have HR : Hid (plainZ n = false) := by rw [HV.out, a1]; exact rfl
  case' true.false => have HR : Hid (plainZ n = false) := by rw [HV.out, a1, a2]; exact rfl
  case' true.true.true => have HR : Hid (plainZ n = false) := by rw [HV.out, a1, a2, a3]; exact rfl
  case' true.true.true => have b3 : (n != 34) = false := by rw [bne, a3]; rfl
  case' true.true.false.true => have HR : Hid (plainZ n = false) := by rw [HV.out, a1, a2, a3, a4]; exact rfl
  case' true.true.false.true => have b3 : (n != 34) = true := by rw [bne, a3]; rfl
  case' true.true.false.true => have b4 : (n != 92) = false := by rw [bne, a4]; rfl
  case' true.true.false.false => have HR : Hid (plainZ n = true) := by rw [HV.out, a1, a2, a3, a4]; exact rfl
  case' true.true.false.false => have b3 : (n != 34) = true := by rw [bne, a3]; rfl
  case' true.true.false.false => have b4 : (n != 92) = true := by rw [bne, a4]; rfl
  all_goals
    clear HV
    go_enter Tryd.func51, Tryd.ntmps51
    go_wp2
    go_ret
    exact ⟨by rw [HR.out]; rfl, rfl⟩
/-- What a digit of base sixteen is worth; -1: it is none. -/
def hexZ (n : Int) : Int := if 48 ≤ n ∧ n ≤ 57 then n - 48 else if 97 ≤ n ∧ n ≤ 102 then n - 87 else -1
set_option maxHeartbeats 400000 in
theorem digit_any (n : Int) (h0 : 0 ≤ n) (h1 : n ≤ 255) (w : World) : Calls Tryd.prog 52 #[.int .u8 n] w fun e w' => e = .returned (.int .i64 (hexZ n)) ∧ w' = w := by
  by_cases a : 48 ≤ n ∧ n ≤ 57
  · have HR : Hid (hexZ n = n - 48) := if_pos a
    obtain ⟨a1, a2⟩ := a
    go_enter Tryd.func52, Tryd.ntmps52
    go_wp2
    go_ret
    exact ⟨by rw [HR.out]; rfl, rfl⟩
  · by_cases b : 97 ≤ n ∧ n ≤ 102
    · have HR : Hid (hexZ n = n - 97 + 10) := by unfold hexZ; rw [if_neg a, if_pos b]; show _ = _; omega
      obtain ⟨b1, b2⟩ := b
      have a2 : decide (n ≤ 57) = false := decide_eq_false (by omega)
      clear a
      go_enter Tryd.func52, Tryd.ntmps52
      go_wp2
      go_ret
      exact ⟨by rw [HR.out]; rfl, rfl⟩
    · have HR : Hid (hexZ n = -1) := by unfold hexZ; rw [if_neg a, if_neg b]; exact rfl
      cases a1 : decide (48 ≤ n)
      · have b1 : decide (97 ≤ n) = false := decide_eq_false (by have := of_decide_eq_false a1; omega)
        clear a b
        go_enter Tryd.func52, Tryd.ntmps52
        go_wp2
        go_ret
        exact ⟨by rw [HR.out]; rfl, rfl⟩
      · have a2 : decide (n ≤ 57) = false := decide_eq_false (by have := of_decide_eq_true a1; omega)
        cases b1 : decide (97 ≤ n)
        · clear a b
          go_enter Tryd.func52, Tryd.ntmps52
          go_wp2
          go_ret
          exact ⟨by rw [HR.out]; rfl, rfl⟩
        · have b2 : decide (n ≤ 102) = false := decide_eq_false (by have := of_decide_eq_true b1; omega)
          clear a b
          go_enter Tryd.func52, Tryd.ntmps52
          go_wp2
          go_ret
          exact ⟨by rw [HR.out]; rfl, rfl⟩
/-- The reference: 16: it is none. -/
def hexR (n : Int) : Int := if hexZ n < 0 then 16 else hexZ n
set_option maxHeartbeats 400000 in
theorem refValue_any (n : Int) (h0 : 0 ≤ n) (h1 : n ≤ 255) (w : World) : Calls Tryd.prog 53 #[.int .u8 n] w fun e w' => e = .returned (.int .u8 (hexR n)) ∧ w' = w := by
  by_cases a : 48 ≤ n ∧ n ≤ 57
  · have HR : Hid (hexR n = n - 48) := by unfold hexR hexZ; rw [if_pos a, if_neg (by omega)]; exact rfl
    obtain ⟨a1, a2⟩ := a
    go_enter Tryd.func53, Tryd.ntmps53
    go_wp2
    go_ret
    exact ⟨by rw [HR.out]; rfl, rfl⟩
  · by_cases b : 97 ≤ n ∧ n ≤ 102
    · have HR : Hid (hexR n = n - 97 + 10) := by unfold hexR hexZ; rw [if_neg a, if_pos b, if_neg (by omega)]; show _ = _; omega
      obtain ⟨b1, b2⟩ := b
      have a2 : decide (n ≤ 57) = false := decide_eq_false (by omega)
      clear a
      go_enter Tryd.func53, Tryd.ntmps53
      go_wp2
      go_ret
      exact ⟨by rw [HR.out]; rfl, rfl⟩
    · have HR : Hid (hexR n = 16) := by unfold hexR hexZ; rw [if_neg a, if_neg b]; exact rfl
      cases a1 : decide (48 ≤ n)
      · have b1 : decide (97 ≤ n) = false := decide_eq_false (by have := of_decide_eq_false a1; omega)
        clear a b
        go_enter Tryd.func53, Tryd.ntmps53
        go_wp2
        go_ret
        exact ⟨by rw [HR.out]; rfl, rfl⟩
      · have a2 : decide (n ≤ 57) = false := decide_eq_false (by have := of_decide_eq_true a1; omega)
        cases b1 : decide (97 ≤ n)
        · clear a b
          go_enter Tryd.func53, Tryd.ntmps53
          go_wp2
          go_ret
          exact ⟨by rw [HR.out]; rfl, rfl⟩
        · have b2 : decide (n ≤ 102) = false := decide_eq_false (by have := of_decide_eq_true b1; omega)
          clear a b
          go_enter Tryd.func53, Tryd.ntmps53
          go_wp2
          go_ret
          exact ⟨by rw [HR.out]; rfl, rfl⟩
/-- The digit of a number below 16. -/
def hexD (n : Int) : Int := if n < 10 then 48 + n else 87 + n
set_option maxHeartbeats 400000 in
theorem refDigit_any (n : Int) (h0 : 0 ≤ n) (h1 : n ≤ 15) (w : World) : Calls Tryd.prog 56 #[.int .u8 n] w fun e w' => e = .returned (.int .u8 (hexD n)) ∧ w' = w := by
  by_cases a : n < 10
  · have HR : Hid (hexD n = 48 + n) := if_pos a
    go_enter Tryd.func56, Tryd.ntmps56
    go_wp2
    go_ret
    exact ⟨by rw [HR.out]; rfl, rfl⟩
  · have HR : Hid (hexD n = 97 + n - 10) := by unfold hexD; rw [if_neg a]; show _ = _; omega
    go_enter Tryd.func56, Tryd.ntmps56
    go_wp2
    go_ret
    exact ⟨by rw [HR.out]; rfl, rfl⟩
end Go.Proofs.YtecgjhjglklcnaaDoor
