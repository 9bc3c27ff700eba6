/-
  Plain laws: the integers of a walk written as Go's own unsigned types (UInt8, UInt32, UInt64) behind the names n8, n32, n64. No program in sight.
-/
import Derived.WalkKit
import Derived.WalkSpells
import Derived.WalkLawsBesides
import Derived.Lib.Hide
namespace Go.Proofs.YtalpbphfmelhhaaGreatDoor
open Go.RowKit

def n8 (x : UInt8) : Int := (x.toNat : Int)
def n32 (x : UInt32) : Int := (x.toNat : Int)
def n64 (x : UInt64) : Int := (x.toNat : Int)
theorem n64_bd (x : UInt64) : 0 ≤ n64 x ∧ n64 x < 18446744073709551616 := ⟨by unfold n64; omega, by unfold n64; have := x.toNat_lt; omega⟩
theorem n64_nn (x : UInt64) : 0 ≤ n64 x := (n64_bd x).1
theorem n64_inj {x y : UInt64} : n64 x = n64 y ↔ x = y := by
  unfold n64; constructor
  · intro h; exact UInt64.toNat_inj.1 (by omega)
  · intro h; rw [h]
theorem n64_of (n : Nat) (h : n < 18446744073709551616) : n64 (UInt64.ofNat n) = (n : Int) := by
  unfold n64; rw [UInt64.toNat_ofNat']; rw [Nat.mod_eq_of_lt h]
theorem wr64 (n : Int) : IntKind.u64.wrap n = n64 (UInt64.ofNat (n % 18446744073709551616).toNat) := by
  rw [n64_of _ (by omega)]
  simp [IntKind.wrap, IntKind.bits, IntKind.signed]
  omega
theorem n64_and (x y : UInt64) : bits .and .u64 (n64 x) (n64 y) = n64 (x &&& y) := by
  unfold n64; rw [u64_and_nat _ _ x.toNat_lt y.toNat_lt, UInt64.toNat_and]
theorem n64_or (x y : UInt64) : bits .or .u64 (n64 x) (n64 y) = n64 (x ||| y) := by
  unfold n64; rw [u64_or_nat _ _ x.toNat_lt y.toNat_lt, UInt64.toNat_or]
theorem n64_xor (x y : UInt64) : bits .xor .u64 (n64 x) (n64 y) = n64 (x ^^^ y) := by
  unfold n64; rw [u64_xor_nat _ _ x.toNat_lt y.toNat_lt, UInt64.toNat_xor]
theorem n64_andNot (x y : UInt64) : bits .andNot .u64 (n64 x) (n64 y) = n64 (x &&& ~~~y) := by
  unfold n64; rw [u64_andNot_nat _ _ x.toNat_lt y.toNat_lt, UInt64.toNat_and, UInt64.toNat_not]; rfl
theorem n64_shr (x : UInt64) (k : Nat) (hk : k < 64) : n64 x / (2 : Int) ^ k = n64 (x >>> UInt64.ofNat k) := by
  unfold n64; rw [UInt64.toNat_shiftRight, UInt64.toNat_ofNat', Nat.mod_eq_of_lt (show k < 2 ^ 64 by omega), Nat.mod_eq_of_lt hk, Nat.shiftRight_eq_div_pow]
  simp
theorem n64_shl (x : UInt64) (k : Nat) (hk : k < 64) : IntKind.u64.wrap (n64 x * (2 : Int) ^ k) = n64 (x <<< UInt64.ofNat k) := by
  unfold n64; rw [UInt64.toNat_shiftLeft, UInt64.toNat_ofNat', Nat.mod_eq_of_lt (show k < 2 ^ 64 by omega), Nat.mod_eq_of_lt hk, Nat.shiftLeft_eq]
  simp [IntKind.wrap, IntKind.bits, IntKind.signed]
theorem n64_not (x : UInt64) : bits .xor .u64 18446744073709551615 (n64 x) = n64 (~~~x) := by
  have h1 := x.toNat_lt
  have e : (18446744073709551615 : Int) = n64 (UInt64.ofNat 18446744073709551615) := by rw [n64_of _ (by omega)]; rfl
  rw [e, n64_xor]; congr 1 <;> (apply UInt64.toBitVec_inj.1 <;> simp)
theorem un64_not (x : UInt64) : Op.unary .xor (.int .u64 (n64 x)) = pure (.int .u64 (n64 (~~~x))) := by
  have e : (if IntKind.u64.signed then (-1 : Int) else IntKind.u64.max) = 18446744073709551615 := by decide
  rw [unary_xor, intBits_xor, e, n64_not]
theorem sh64_shr (x : UInt64) (yk : IntKind) (k : Int) (h0 : 0 ≤ k) (hk : k < 64) : Op.shift .shr .u64 (n64 x) yk k = pure (.int .u64 (n64 (x >>> UInt64.ofNat k.toNat))) := by
  rw [shift_shr _ _ _ _ h0 (by simp [IntKind.bits]; omega), n64_shr _ _ (by omega)]
theorem sh64_shl (x : UInt64) (yk : IntKind) (k : Int) (h0 : 0 ≤ k) (hk : k < 64) : Op.shift .shl .u64 (n64 x) yk k = pure (.int .u64 (n64 (x <<< UInt64.ofNat k.toNat))) := by
  rw [shift_shl _ _ _ _ h0 (by simp [IntKind.bits]; omega), n64_shl _ _ (by omega)]
theorem n64_eq (x y : UInt64) : (n64 x == n64 y) = (x == y) := by
  rw [Bool.eq_iff_iff]; simp [n64_inj]
theorem n64_ltB (x y : UInt64) : decide (n64 x < n64 y) = decide (x < y) := by
  rw [Bool.eq_iff_iff]; simp [UInt64.lt_iff_toNat_lt, n64]
end Go.Proofs.YtalpbphfmelhhaaGreatDoor

