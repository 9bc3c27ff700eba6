/-
  Plain laws of sums of values. No program in sight.
-/
import Derived.Test.YtecgjhjglklcnaaDoorD19
import Derived.Test.YtecgjhjglklcnaaDoorD17
namespace Go.Proofs.YtecgjhjglklcnaaDoor
open Go.RowKit Go.Shelf Go.Sort
section
variable (ka : Int) (xa : UInt64) (sa : List UInt8) (kb : Int) (xb : UInt64) (sb : List UInt8)
theorem plusD_turn : plusD kb xb sb ka xa sa = plusD ka xa sa kb xb sb := by
  unfold plusD
  rw [add_comm_w xb xa]
  have : (mayB kb xb sb && mayB ka xa sa && !(kb == 2) && !(ka == 2)) = (mayB ka xa sa && mayB kb xb sb && !(ka == 2) && !(kb == 2)) := by
    cases mayB ka xa sa <;> cases mayB kb xb sb <;> cases (ka == 2) <;> cases (kb == 2) <;> rfl
  rw [this]
theorem plusD_e : ((plusD ka xa sa kb xb sb).e == 0) = (mayB ka xa sa && (mayB kb xb sb && ((ka != 2) && (kb != 2)))) := by
  unfold plusD
  cases mayB ka xa sa <;> cases mayB kb xb sb <;> cases h1 : (ka == 2) <;> cases h2 : (kb == 2) <;> simp [bne, h1, h2]
end
theorem top_eq : (9223372036854775808 : UInt64) = topW := by decide
/-- A number to which None is added. -/
theorem plus_none {xa : UInt64} (h : xa = canon xa) : plusD 1 xa [] 0 0 [] = ⟨1, if magN xa = 0 then 0 else xa, [], 0⟩ := by
  have h1 : mayB 1 xa [] = true := by unfold mayB; rw [if_neg (by decide), if_pos rfl]; rw [← h]; simp
  have h2 : mayB 0 0 [] = true := by decide
  unfold plusD
  rw [h1, h2, if_pos (by decide), add_zero_w]
  congr 1
  split
  · decide +kernel
  · rw [canon_canon]; exact h.symm
theorem mag0 {xa : UInt64} (h : magN xa = 0) : xa = 0 ∨ xa = topW := by
  have hl := lt64 xa
  unfold magN at h
  rcases (show xa.toNat = 0 ∨ xa.toNat = 9223372036854775808 by omega) with e | e
  · exact .inl (UInt64.toNat_inj.1 e)
  · exact .inr (UInt64.toNat_inj.1 e)
/-- The sum with None is the number, or that of minus nought. -/
theorem plus_none_cases {xa : UInt64} (h : xa = canon xa) : plusD 1 xa [] 0 0 [] = ⟨1, xa, [], 0⟩ ∨ (xa = topW ∧ plusD 1 xa [] 0 0 [] = ⟨1, 0, [], 0⟩) := by
  rw [plus_none h]
  by_cases h0 : magN xa = 0
  · rw [if_pos h0]
    rcases mag0 h0 with e | e
    · left; rw [e]
    · exact .inr ⟨e, rfl⟩
  · rw [if_neg h0]; exact .inl rfl
end Go.Proofs.YtecgjhjglklcnaaDoor
