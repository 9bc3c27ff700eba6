/-
  Plain laws: the integers of a walk written as Go's own unsigned types (UInt8, UInt32, UInt64) behind the names n8, n32, n64. No program in sight.
-/
import Derived.WalkKit
import Derived.WalkSpells
import Derived.WalkLawsBesides
import Derived.Lib.Hide
namespace Go.Proofs.YtalpbphfmelhhaaGreatDoor
open Go.RowKit

def n8 (x : UInt8) : Int := (x.toNat : Int)
theorem n8_bd (x : UInt8) : 0 ≤ n8 x ∧ n8 x < 256 := ⟨by unfold n8; omega, by unfold n8; have := x.toNat_lt; omega⟩
theorem n8_nn (x : UInt8) : 0 ≤ n8 x := (n8_bd x).1
theorem n8_lt (x : UInt8) : n8 x < 256 := (n8_bd x).2
theorem n8_le (x : UInt8) : n8 x ≤ 255 := by have := n8_lt x; omega
theorem n8_inj {x y : UInt8} : n8 x = n8 y ↔ x = y := by
  unfold n8; constructor
  · intro h; exact UInt8.toNat_inj.1 (by omega)
  · intro h; rw [h]
theorem n8_of (n : Nat) (h : n < 256) : n8 (UInt8.ofNat n) = (n : Int) := by
  unfold n8; rw [UInt8.toNat_ofNat']; rw [Nat.mod_eq_of_lt h]
theorem wr8 (n : Int) : IntKind.u8.wrap n = n8 (UInt8.ofNat (n % 256).toNat) := by
  rw [n8_of _ (by omega)]
  simp [IntKind.wrap, IntKind.bits, IntKind.signed]
  omega
theorem wr8_id (x : UInt8) : IntKind.u8.wrap (n8 x) = n8 x := by
  have := n8_bd x
  simp [IntKind.wrap, IntKind.bits, IntKind.signed]
  omega
theorem wr8_add (x y : UInt8) : IntKind.u8.wrap (n8 x + n8 y) = n8 (x + y) := by
  unfold n8; rw [UInt8.toNat_add]
  simp [IntKind.wrap, IntKind.bits, IntKind.signed]
theorem wr8_mul (x y : UInt8) : IntKind.u8.wrap (n8 x * n8 y) = n8 (x * y) := by
  unfold n8; rw [UInt8.toNat_mul]
  simp [IntKind.wrap, IntKind.bits, IntKind.signed]
theorem wr8_sub (x y : UInt8) : IntKind.u8.wrap (n8 x - n8 y) = n8 (x - y) := by
  have h1 := x.toNat_lt
  have h2 := y.toNat_lt
  unfold n8; rw [UInt8.toNat_sub]
  simp [IntKind.wrap, IntKind.bits, IntKind.signed]
  omega
theorem wr8_neg (x : UInt8) : IntKind.u8.wrap (-n8 x) = n8 (-x) := by
  have h1 := x.toNat_lt
  have hs : UInt8.size = 256 := rfl
  unfold n8; rw [UInt8.toNat_neg, hs]
  simp [IntKind.wrap, IntKind.bits, IntKind.signed]
  omega
theorem n8_and (x y : UInt8) : bits .and .u8 (n8 x) (n8 y) = n8 (x &&& y) := by
  unfold n8; rw [u8_and_nat _ _ x.toNat_lt y.toNat_lt, UInt8.toNat_and]
theorem n8_or (x y : UInt8) : bits .or .u8 (n8 x) (n8 y) = n8 (x ||| y) := by
  unfold n8; rw [u8_or_nat _ _ x.toNat_lt y.toNat_lt, UInt8.toNat_or]
theorem n8_xor (x y : UInt8) : bits .xor .u8 (n8 x) (n8 y) = n8 (x ^^^ y) := by
  unfold n8; rw [u8_xor_nat _ _ x.toNat_lt y.toNat_lt, UInt8.toNat_xor]
theorem n8_andNot (x y : UInt8) : bits .andNot .u8 (n8 x) (n8 y) = n8 (x &&& ~~~y) := by
  unfold n8; rw [u8_andNot_nat _ _ x.toNat_lt y.toNat_lt, UInt8.toNat_and, UInt8.toNat_not]; rfl
theorem n8_shr (x : UInt8) (k : Nat) (hk : k < 8) : n8 x / (2 : Int) ^ k = n8 (x >>> UInt8.ofNat k) := by
  unfold n8; rw [UInt8.toNat_shiftRight, UInt8.toNat_ofNat', Nat.mod_eq_of_lt (show k < 2 ^ 8 by omega), Nat.mod_eq_of_lt hk, Nat.shiftRight_eq_div_pow]
  simp
theorem n8_shl (x : UInt8) (k : Nat) (hk : k < 8) : IntKind.u8.wrap (n8 x * (2 : Int) ^ k) = n8 (x <<< UInt8.ofNat k) := by
  unfold n8; rw [UInt8.toNat_shiftLeft, UInt8.toNat_ofNat', Nat.mod_eq_of_lt (show k < 2 ^ 8 by omega), Nat.mod_eq_of_lt hk, Nat.shiftLeft_eq]
  simp [IntKind.wrap, IntKind.bits, IntKind.signed]
theorem n8_not (x : UInt8) : bits .xor .u8 255 (n8 x) = n8 (~~~x) := by
  have h1 := x.toNat_lt
  have e : (255 : Int) = n8 (UInt8.ofNat 255) := by rw [n8_of _ (by omega)]; rfl
  rw [e, n8_xor]; congr 1 <;> (apply UInt8.toBitVec_inj.1 <;> simp)
theorem un8_not (x : UInt8) : Op.unary .xor (.int .u8 (n8 x)) = pure (.int .u8 (n8 (~~~x))) := by
  have e : (if IntKind.u8.signed then (-1 : Int) else IntKind.u8.max) = 255 := by decide
  rw [unary_xor, intBits_xor, e, n8_not]
theorem sh8_shr (x : UInt8) (yk : IntKind) (k : Int) (h0 : 0 ≤ k) (hk : k < 8) : Op.shift .shr .u8 (n8 x) yk k = pure (.int .u8 (n8 (x >>> UInt8.ofNat k.toNat))) := by
  rw [shift_shr _ _ _ _ h0 (by simp [IntKind.bits]; omega), n8_shr _ _ (by omega)]
theorem sh8_shl (x : UInt8) (yk : IntKind) (k : Int) (h0 : 0 ≤ k) (hk : k < 8) : Op.shift .shl .u8 (n8 x) yk k = pure (.int .u8 (n8 (x <<< UInt8.ofNat k.toNat))) := by
  rw [shift_shl _ _ _ _ h0 (by simp [IntKind.bits]; omega), n8_shl _ _ (by omega)]
theorem n8_eq (x y : UInt8) : (n8 x == n8 y) = (x == y) := by
  rw [Bool.eq_iff_iff]; simp [n8_inj]
theorem n8_ltB (x y : UInt8) : decide (n8 x < n8 y) = decide (x < y) := by
  rw [Bool.eq_iff_iff]; simp [UInt8.lt_iff_toNat_lt, n8]
theorem n8_leB (x y : UInt8) : decide (n8 x ≤ n8 y) = decide (x ≤ y) := by
  rw [Bool.eq_iff_iff]; simp [UInt8.le_iff_toNat_le, n8]

def n32 (x : UInt32) : Int := (x.toNat : Int)
theorem n32_bd (x : UInt32) : 0 ≤ n32 x ∧ n32 x < 4294967296 := ⟨by unfold n32; omega, by unfold n32; have := x.toNat_lt; omega⟩
theorem n32_nn (x : UInt32) : 0 ≤ n32 x := (n32_bd x).1
theorem n32_lt (x : UInt32) : n32 x < 4294967296 := (n32_bd x).2
theorem n32_le (x : UInt32) : n32 x ≤ 4294967295 := by have := n32_lt x; omega
theorem n32_inj {x y : UInt32} : n32 x = n32 y ↔ x = y := by
  unfold n32; constructor
  · intro h; exact UInt32.toNat_inj.1 (by omega)
  · intro h; rw [h]
theorem n32_of (n : Nat) (h : n < 4294967296) : n32 (UInt32.ofNat n) = (n : Int) := by
  unfold n32; rw [UInt32.toNat_ofNat']; rw [Nat.mod_eq_of_lt h]
theorem wr32 (n : Int) : IntKind.u32.wrap n = n32 (UInt32.ofNat (n % 4294967296).toNat) := by
  rw [n32_of _ (by omega)]
  simp [IntKind.wrap, IntKind.bits, IntKind.signed]
  omega
theorem wr32_id (x : UInt32) : IntKind.u32.wrap (n32 x) = n32 x := by
  have := n32_bd x
  simp [IntKind.wrap, IntKind.bits, IntKind.signed]
  omega
theorem wr32_add (x y : UInt32) : IntKind.u32.wrap (n32 x + n32 y) = n32 (x + y) := by
  unfold n32; rw [UInt32.toNat_add]
  simp [IntKind.wrap, IntKind.bits, IntKind.signed]
theorem wr32_mul (x y : UInt32) : IntKind.u32.wrap (n32 x * n32 y) = n32 (x * y) := by
  unfold n32; rw [UInt32.toNat_mul]
  simp [IntKind.wrap, IntKind.bits, IntKind.signed]
theorem wr32_sub (x y : UInt32) : IntKind.u32.wrap (n32 x - n32 y) = n32 (x - y) := by
  have h1 := x.toNat_lt
  have h2 := y.toNat_lt
  unfold n32; rw [UInt32.toNat_sub]
  simp [IntKind.wrap, IntKind.bits, IntKind.signed]
  omega
theorem wr32_neg (x : UInt32) : IntKind.u32.wrap (-n32 x) = n32 (-x) := by
  have h1 := x.toNat_lt
  have hs : UInt32.size = 4294967296 := rfl
  unfold n32; rw [UInt32.toNat_neg, hs]
  simp [IntKind.wrap, IntKind.bits, IntKind.signed]
  omega
theorem n32_and (x y : UInt32) : bits .and .u32 (n32 x) (n32 y) = n32 (x &&& y) := by
  unfold n32; rw [u32_and_nat _ _ x.toNat_lt y.toNat_lt, UInt32.toNat_and]
theorem n32_or (x y : UInt32) : bits .or .u32 (n32 x) (n32 y) = n32 (x ||| y) := by
  unfold n32; rw [u32_or_nat _ _ x.toNat_lt y.toNat_lt, UInt32.toNat_or]
theorem n32_xor (x y : UInt32) : bits .xor .u32 (n32 x) (n32 y) = n32 (x ^^^ y) := by
  unfold n32; rw [u32_xor_nat _ _ x.toNat_lt y.toNat_lt, UInt32.toNat_xor]
theorem n32_andNot (x y : UInt32) : bits .andNot .u32 (n32 x) (n32 y) = n32 (x &&& ~~~y) := by
  unfold n32; rw [u32_andNot_nat _ _ x.toNat_lt y.toNat_lt, UInt32.toNat_and, UInt32.toNat_not]; rfl
theorem n32_shr (x : UInt32) (k : Nat) (hk : k < 32) : n32 x / (2 : Int) ^ k = n32 (x >>> UInt32.ofNat k) := by
  unfold n32; rw [UInt32.toNat_shiftRight, UInt32.toNat_ofNat', Nat.mod_eq_of_lt (show k < 2 ^ 32 by omega), Nat.mod_eq_of_lt hk, Nat.shiftRight_eq_div_pow]
  simp
theorem n32_shl (x : UInt32) (k : Nat) (hk : k < 32) : IntKind.u32.wrap (n32 x * (2 : Int) ^ k) = n32 (x <<< UInt32.ofNat k) := by
  unfold n32; rw [UInt32.toNat_shiftLeft, UInt32.toNat_ofNat', Nat.mod_eq_of_lt (show k < 2 ^ 32 by omega), Nat.mod_eq_of_lt hk, Nat.shiftLeft_eq]
  simp [IntKind.wrap, IntKind.bits, IntKind.signed]
theorem n32_not (x : UInt32) : bits .xor .u32 4294967295 (n32 x) = n32 (~~~x) := by
  have h1 := x.toNat_lt
  have e : (4294967295 : Int) = n32 (UInt32.ofNat 4294967295) := by rw [n32_of _ (by omega)]; rfl
  rw [e, n32_xor]; congr 1 <;> (apply UInt32.toBitVec_inj.1 <;> simp)
theorem un32_not (x : UInt32) : Op.unary .xor (.int .u32 (n32 x)) = pure (.int .u32 (n32 (~~~x))) := by
  have e : (if IntKind.u32.signed then (-1 : Int) else IntKind.u32.max) = 4294967295 := by decide
  rw [unary_xor, intBits_xor, e, n32_not]
theorem sh32_shr (x : UInt32) (yk : IntKind) (k : Int) (h0 : 0 ≤ k) (hk : k < 32) : Op.shift .shr .u32 (n32 x) yk k = pure (.int .u32 (n32 (x >>> UInt32.ofNat k.toNat))) := by
  rw [shift_shr _ _ _ _ h0 (by simp [IntKind.bits]; omega), n32_shr _ _ (by omega)]
theorem sh32_shl (x : UInt32) (yk : IntKind) (k : Int) (h0 : 0 ≤ k) (hk : k < 32) : Op.shift .shl .u32 (n32 x) yk k = pure (.int .u32 (n32 (x <<< UInt32.ofNat k.toNat))) := by
  rw [shift_shl _ _ _ _ h0 (by simp [IntKind.bits]; omega), n32_shl _ _ (by omega)]
theorem n32_eq (x y : UInt32) : (n32 x == n32 y) = (x == y) := by
  rw [Bool.eq_iff_iff]; simp [n32_inj]
theorem n32_ltB (x y : UInt32) : decide (n32 x < n32 y) = decide (x < y) := by
  rw [Bool.eq_iff_iff]; simp [UInt32.lt_iff_toNat_lt, n32]
theorem n32_leB (x y : UInt32) : decide (n32 x ≤ n32 y) = decide (x ≤ y) := by
  rw [Bool.eq_iff_iff]; simp [UInt32.le_iff_toNat_le, n32]

def n64 (x : UInt64) : Int := (x.toNat : Int)
theorem n64_bd (x : UInt64) : 0 ≤ n64 x ∧ n64 x < 18446744073709551616 := ⟨by unfold n64; omega, by unfold n64; have := x.toNat_lt; omega⟩
theorem n64_nn (x : UInt64) : 0 ≤ n64 x := (n64_bd x).1
theorem n64_lt (x : UInt64) : n64 x < 18446744073709551616 := (n64_bd x).2
theorem n64_le (x : UInt64) : n64 x ≤ 18446744073709551615 := by have := n64_lt x; omega
theorem n64_inj {x y : UInt64} : n64 x = n64 y ↔ x = y := by
  unfold n64; constructor
  · intro h; exact UInt64.toNat_inj.1 (by omega)
  · intro h; rw [h]
theorem n64_of (n : Nat) (h : n < 18446744073709551616) : n64 (UInt64.ofNat n) = (n : Int) := by
  unfold n64; rw [UInt64.toNat_ofNat']; rw [Nat.mod_eq_of_lt h]
theorem wr64 (n : Int) : IntKind.u64.wrap n = n64 (UInt64.ofNat (n % 18446744073709551616).toNat) := by
  rw [n64_of _ (by omega)]
  simp [IntKind.wrap, IntKind.bits, IntKind.signed]
  omega
theorem wr64_id (x : UInt64) : IntKind.u64.wrap (n64 x) = n64 x := by
  have := n64_bd x
  simp [IntKind.wrap, IntKind.bits, IntKind.signed]
  omega
theorem wr64_add (x y : UInt64) : IntKind.u64.wrap (n64 x + n64 y) = n64 (x + y) := by
  unfold n64; rw [UInt64.toNat_add]
  simp [IntKind.wrap, IntKind.bits, IntKind.signed]
theorem wr64_mul (x y : UInt64) : IntKind.u64.wrap (n64 x * n64 y) = n64 (x * y) := by
  unfold n64; rw [UInt64.toNat_mul]
  simp [IntKind.wrap, IntKind.bits, IntKind.signed]
theorem wr64_sub (x y : UInt64) : IntKind.u64.wrap (n64 x - n64 y) = n64 (x - y) := by
  have h1 := x.toNat_lt
  have h2 := y.toNat_lt
  unfold n64; rw [UInt64.toNat_sub]
  simp [IntKind.wrap, IntKind.bits, IntKind.signed]
  omega
theorem wr64_neg (x : UInt64) : IntKind.u64.wrap (-n64 x) = n64 (-x) := by
  have h1 := x.toNat_lt
  have hs : UInt64.size = 18446744073709551616 := rfl
  unfold n64; rw [UInt64.toNat_neg, hs]
  simp [IntKind.wrap, IntKind.bits, IntKind.signed]
  omega
theorem n64_and (x y : UInt64) : bits .and .u64 (n64 x) (n64 y) = n64 (x &&& y) := by
  unfold n64; rw [u64_and_nat _ _ x.toNat_lt y.toNat_lt, UInt64.toNat_and]
theorem n64_or (x y : UInt64) : bits .or .u64 (n64 x) (n64 y) = n64 (x ||| y) := by
  unfold n64; rw [u64_or_nat _ _ x.toNat_lt y.toNat_lt, UInt64.toNat_or]
theorem n64_xor (x y : UInt64) : bits .xor .u64 (n64 x) (n64 y) = n64 (x ^^^ y) := by
  unfold n64; rw [u64_xor_nat _ _ x.toNat_lt y.toNat_lt, UInt64.toNat_xor]
theorem n64_andNot (x y : UInt64) : bits .andNot .u64 (n64 x) (n64 y) = n64 (x &&& ~~~y) := by
  unfold n64; rw [u64_andNot_nat _ _ x.toNat_lt y.toNat_lt, UInt64.toNat_and, UInt64.toNat_not]; rfl
theorem n64_shr (x : UInt64) (k : Nat) (hk : k < 64) : n64 x / (2 : Int) ^ k = n64 (x >>> UInt64.ofNat k) := by
  unfold n64; rw [UInt64.toNat_shiftRight, UInt64.toNat_ofNat', Nat.mod_eq_of_lt (show k < 2 ^ 64 by omega), Nat.mod_eq_of_lt hk, Nat.shiftRight_eq_div_pow]
  simp
theorem n64_shl (x : UInt64) (k : Nat) (hk : k < 64) : IntKind.u64.wrap (n64 x * (2 : Int) ^ k) = n64 (x <<< UInt64.ofNat k) := by
  unfold n64; rw [UInt64.toNat_shiftLeft, UInt64.toNat_ofNat', Nat.mod_eq_of_lt (show k < 2 ^ 64 by omega), Nat.mod_eq_of_lt hk, Nat.shiftLeft_eq]
  simp [IntKind.wrap, IntKind.bits, IntKind.signed]
theorem n64_not (x : UInt64) : bits .xor .u64 18446744073709551615 (n64 x) = n64 (~~~x) := by
  have h1 := x.toNat_lt
  have e : (18446744073709551615 : Int) = n64 (UInt64.ofNat 18446744073709551615) := by rw [n64_of _ (by omega)]; rfl
  rw [e, n64_xor]; congr 1 <;> (apply UInt64.toBitVec_inj.1 <;> simp)
theorem un64_not (x : UInt64) : Op.unary .xor (.int .u64 (n64 x)) = pure (.int .u64 (n64 (~~~x))) := by
  have e : (if IntKind.u64.signed then (-1 : Int) else IntKind.u64.max) = 18446744073709551615 := by decide
  rw [unary_xor, intBits_xor, e, n64_not]
theorem sh64_shr (x : UInt64) (yk : IntKind) (k : Int) (h0 : 0 ≤ k) (hk : k < 64) : Op.shift .shr .u64 (n64 x) yk k = pure (.int .u64 (n64 (x >>> UInt64.ofNat k.toNat))) := by
  rw [shift_shr _ _ _ _ h0 (by simp [IntKind.bits]; omega), n64_shr _ _ (by omega)]
theorem sh64_shl (x : UInt64) (yk : IntKind) (k : Int) (h0 : 0 ≤ k) (hk : k < 64) : Op.shift .shl .u64 (n64 x) yk k = pure (.int .u64 (n64 (x <<< UInt64.ofNat k.toNat))) := by
  rw [shift_shl _ _ _ _ h0 (by simp [IntKind.bits]; omega), n64_shl _ _ (by omega)]
theorem n64_eq (x y : UInt64) : (n64 x == n64 y) = (x == y) := by
  rw [Bool.eq_iff_iff]; simp [n64_inj]
theorem n64_ltB (x y : UInt64) : decide (n64 x < n64 y) = decide (x < y) := by
  rw [Bool.eq_iff_iff]; simp [UInt64.lt_iff_toNat_lt, n64]
theorem n64_leB (x y : UInt64) : decide (n64 x ≤ n64 y) = decide (x ≤ y) := by
  rw [Bool.eq_iff_iff]; simp [UInt64.le_iff_toNat_le, n64]

theorem n8_to32 (x : UInt8) : IntKind.u32.wrap (n8 x) = n32 x.toUInt32 := by
  have := x.toNat_lt
  unfold n8 n32; rw [UInt8.toNat_toUInt32]
  simp [IntKind.wrap, IntKind.bits, IntKind.signed]; omega
theorem n8_to64 (x : UInt8) : IntKind.u64.wrap (n8 x) = n64 x.toUInt64 := by
  have := x.toNat_lt
  unfold n8 n64; rw [UInt8.toNat_toUInt64]
  simp [IntKind.wrap, IntKind.bits, IntKind.signed]; omega
theorem n32_to8 (x : UInt32) : IntKind.u8.wrap (n32 x) = n8 x.toUInt8 := by
  unfold n8 n32; rw [UInt32.toNat_toUInt8]
  simp [IntKind.wrap, IntKind.bits, IntKind.signed]
theorem n64_to8 (x : UInt64) : IntKind.u8.wrap (n64 x) = n8 x.toUInt8 := by
  unfold n8 n64; rw [UInt64.toNat_toUInt8]
  simp [IntKind.wrap, IntKind.bits, IntKind.signed]
theorem n32_to64 (x : UInt32) : IntKind.u64.wrap (n32 x) = n64 x.toUInt64 := by
  have := x.toNat_lt
  unfold n32 n64; rw [UInt32.toNat_toUInt64]
  simp [IntKind.wrap, IntKind.bits, IntKind.signed]; omega
theorem n64_to32 (x : UInt64) : IntKind.u32.wrap (n64 x) = n32 x.toUInt32 := by
  unfold n32 n64; rw [UInt64.toNat_toUInt32]
  simp [IntKind.wrap, IntKind.bits, IntKind.signed]
theorem n8_toI (x : UInt8) : IntKind.i64.wrap (n8 x) = n8 x := by
  have := n8_bd x; exact IntWalk.i64_in _ (by omega)
theorem n32_toI (x : UInt32) : IntKind.i64.wrap (n32 x) = n32 x := by
  have := n32_bd x; exact IntWalk.i64_in _ (by omega)
end Go.Proofs.YtalpbphfmelhhaaGreatDoor

