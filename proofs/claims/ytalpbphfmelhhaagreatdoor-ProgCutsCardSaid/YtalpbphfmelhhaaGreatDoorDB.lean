/-
  The walks of the small functions on bytes: plain, digit, the reference's digit and value.
  The walks of Quote and the reference's.
-/
import Derived.Test.YtalpbphfmelhhaaGreatDoorD4
/-! ### The walks of the small functions on bytes: plain, digit, the reference's digit and value. -/
namespace Go.Proofs.YtalpbphfmelhhaaGreatDoor
set_option maxRecDepth 100000
open Go.RowKit Go.Shelf Go.Sort
attribute [local go_sem] bs_size bs_get bs_toList
/-- Does a byte stand as it is? -/
def plainZ (n : Int) : Bool := decide (32 ≤ n) && decide (n ≤ 126) && !(n == 34) && !(n == 92)
set_option maxHeartbeats 400000 in
theorem plain_any (n : Int) (_h0 : 0 ≤ n) (_h1 : n ≤ 255) (w : World) : Calls Tryz.prog 93 #[.int .u8 n] w fun e w' => e = .returned (.bool (plainZ n)) ∧ w' = w := by
  have HV : Hid (plainZ n = (decide (32 ≤ n) && decide (n ≤ 126) && !(n == 34) && !(n == 92))) := rfl
  cases a1 : decide (32 ≤ n)
  case' true => cases a2 : decide (n ≤ 126)
  case' true.true => cases a3 : (n == 34)
  case' true.true.false => cases a4 : (n == 92)
  case' false => have HR : Hid (plainZ n = false) := by rw [HV.out, a1]; exact rfl
  case' true.false => have HR : Hid (plainZ n = false) := by rw [HV.out, a1, a2]; exact rfl
  case' true.true.true => have HR : Hid (plainZ n = false) := by rw [HV.out, a1, a2, a3]; exact rfl
  case' true.true.true => have b3 : (n != 34) = false := by rw [bne, a3]; rfl
  case' true.true.false.true => have HR : Hid (plainZ n = false) := by rw [HV.out, a1, a2, a3, a4]; exact rfl
  case' true.true.false.true => have b3 : (n != 34) = true := by rw [bne, a3]; rfl
  case' true.true.false.true => have b4 : (n != 92) = false := by rw [bne, a4]; rfl
  case' true.true.false.false => have HR : Hid (plainZ n = true) := by rw [HV.out, a1, a2, a3, a4]; exact rfl
  case' true.true.false.false => have b3 : (n != 34) = true := by rw [bne, a3]; rfl
  case' true.true.false.false => have b4 : (n != 92) = true := by rw [bne, a4]; rfl
  all_goals
    clear HV
    go_enter Tryz.func93, Tryz.ntmps93
    go_wp2
    go_ret
    exact ⟨by rw [HR.out]; rfl, rfl⟩
/-- What a digit of base sixteen is worth; -1: it is none. -/
def hexZ (n : Int) : Int := if 48 ≤ n ∧ n ≤ 57 then n - 48 else if 97 ≤ n ∧ n ≤ 102 then n - 87 else -1
set_option maxHeartbeats 400000 in
theorem digit_any (n : Int) (h0 : 0 ≤ n) (h1 : n ≤ 255) (w : World) : Calls Tryz.prog 112 #[.int .u8 n] w fun e w' => e = .returned (.int .i64 (hexZ n)) ∧ w' = w := by
  by_cases a : 48 ≤ n ∧ n ≤ 57
  · have HR : Hid (hexZ n = n - 48) := if_pos a
    obtain ⟨a1, a2⟩ := a
    go_enter Tryz.func112, Tryz.ntmps112
    go_wp2
    go_ret
    exact ⟨by rw [HR.out]; rfl, rfl⟩
  · by_cases b : 97 ≤ n ∧ n ≤ 102
    · have HR : Hid (hexZ n = n - 97 + 10) := by unfold hexZ; rw [if_neg a, if_pos b]; show _ = _; omega
      obtain ⟨b1, b2⟩ := b
      have a2 : decide (n ≤ 57) = false := decide_eq_false (by omega)
      clear a
      go_enter Tryz.func112, Tryz.ntmps112
      go_wp2
      go_ret
      exact ⟨by rw [HR.out]; rfl, rfl⟩
    · have HR : Hid (hexZ n = -1) := by unfold hexZ; rw [if_neg a, if_neg b]; exact rfl
      cases a1 : decide (48 ≤ n)
      · have b1 : decide (97 ≤ n) = false := decide_eq_false (by have := of_decide_eq_false a1; omega)
        clear a b
        go_enter Tryz.func112, Tryz.ntmps112
        go_wp2
        go_ret
        exact ⟨by rw [HR.out]; rfl, rfl⟩
      · have a2 : decide (n ≤ 57) = false := decide_eq_false (by have := of_decide_eq_true a1; omega)
        cases b1 : decide (97 ≤ n)
        · clear a b
          go_enter Tryz.func112, Tryz.ntmps112
          go_wp2
          go_ret
          exact ⟨by rw [HR.out]; rfl, rfl⟩
        · have b2 : decide (n ≤ 102) = false := decide_eq_false (by have := of_decide_eq_true b1; omega)
          clear a b
          go_enter Tryz.func112, Tryz.ntmps112
          go_wp2
          go_ret
          exact ⟨by rw [HR.out]; rfl, rfl⟩
/-- The reference: 16: it is none. -/
def hexR (n : Int) : Int := if hexZ n < 0 then 16 else hexZ n
/-- The digit of a number below 16. -/
def hexD (n : Int) : Int := if n < 10 then 48 + n else 87 + n
end Go.Proofs.YtalpbphfmelhhaaGreatDoor

/-! ### The walks of Quote and the reference's. -/
namespace Go.Proofs.YtalpbphfmelhhaaGreatDoor
set_option maxRecDepth 100000
open Go.RowKit Go.Shelf Go.Sort
attribute [local go_sem] bs_size bs_get bs_toList
theorem S8 : STy Tryz.prog 106 5 (.int .u8 0) 1 1 := ⟨Tryz.underlying106, ⟨_, rfl, by kernel_rfl, by kernel_rfl, by kernel_rfl⟩, rfl, by decide⟩
/-- The digit of a number below 16. -/
def hexC (k : Nat) : UInt8 := UInt8.ofNat (if k < 10 then 48 + k else 87 + k)
/-- A byte as it is quoted. -/
def quoteC (c : UInt8) : List UInt8 := if plainZ c.toNat then [c] else [92, hexC (c.toNat / 16), hexC (c.toNat % 16)]
def quoteTo (l : List UInt8) (k : Nat) : List UInt8 := 34 :: (l.take k).flatMap quoteC
def quoteOf (l : List UInt8) : List UInt8 := 34 :: l.flatMap quoteC ++ [34]
theorem quoteC_len (c : UInt8) : (quoteC c).length ≤ 3 := by unfold quoteC; split <;> simp
theorem flat_len (l : List UInt8) : (l.flatMap quoteC).length ≤ 3 * l.length := by
  induction l with
  | nil => simp
  | cons c t ih => have := quoteC_len c; rw [List.flatMap_cons, List.length_append, List.length_cons]; omega
theorem quoteTo_len (l : List UInt8) (k : Nat) : (quoteTo l k).length ≤ 3 * l.length + 1 := by
  have h1 := flat_len (l.take k)
  have h2 : (l.take k).length ≤ l.length := by rw [List.length_take]; omega
  unfold quoteTo; simp only [List.length_cons]; omega
theorem quoteTo_succ (l : List UInt8) (k : Nat) (h : k < l.length) : quoteTo l (k + 1) = quoteTo l k ++ quoteC (bAt l k) := by
  unfold quoteTo
  rw [B8_take_succ l k h, List.flatMap_append]
  simp [bAt]
theorem quoteTo_all (l : List UInt8) (k : Nat) (h : k = l.length) : quoteTo l k ++ [34] = quoteOf l := by
  subst h; unfold quoteTo quoteOf; simp
end Go.Proofs.YtalpbphfmelhhaaGreatDoor
