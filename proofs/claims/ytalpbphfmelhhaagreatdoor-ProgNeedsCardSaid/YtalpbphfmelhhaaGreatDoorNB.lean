/-
  The walks of what num's Print calls: TrailingZeros64, parts, FormatUint.
  The walks of num's Print and of the reference's.
  The walks of raceref's Dec and the reference's Print.
  The walk of the reference's Print.
  Print, num's and the reference's, of any float: one text.
-/
import Derived.Test.YtalpbphfmelhhaaGreatDoorNA
import Derived.Shelf.Spec.TrailingZeros
import Derived.Lib.AppendIntMem
import Derived.Lib.ItoaLen
/-! ### The walks of what num's Print calls: TrailingZeros64, parts, FormatUint. -/
namespace Go.Proofs.YtalpbphfmelhhaaGreatDoor
set_option maxRecDepth 100000
open Go.RowKit Go.Shelf Go.Sort

set_option maxHeartbeats 1000000 in
theorem tz_core (x k idx : Nat) (w : World) (hx0 : ((x : Int) == 0) = false)
    (key : IntKind.u64.wrap (bits BinOp.and IntKind.u64 (x : Int) (IntKind.u64.wrap (-(x : Int))) * 285870213051353865) / 288230376151711744 = (idx : Int))
    (hi : idx < 64) (hk : k < 64) (hcell : w.cell? ⟨1, idx, none⟩ = some (.int .u8 k)) :
    Calls Tryz.prog 148 #[.int .u64 x] w fun e w' => e = .returned (.int .i64 k) ∧ w' = w := by
  go_enter Tryz.func148, Tryz.ntmps148
  go_wp2_with (simp only [key])
  go_ret
  exact ⟨rfl, rfl⟩

/-- The tables, as the program's text lays them. -/
def Laid (w : World) : Prop := TabAt 1 Lib.deBruijn64tab w ∧ Lib.TabIs Tryz.prog w "internal/strconv.uint64pow10" .u64 Lib.pow10Tab ∧ 2 < w.heap.size
theorem Laid.below {w w' : World} (h : Laid w) (hb : Below w.heap.size w w') : Laid w' := by
  obtain ⟨h1, h2, h3⟩ := h
  refine ⟨fun j hj => ?_, ?_, Nat.lt_of_lt_of_le h3 hb.size⟩
  · rw [hb.cell (show 1 < w.heap.size by omega)]; exact h1 j hj
  · exact Lib.tabBelow_of_tabIs h2 _ hb

theorem tz_any (x : Nat) (hx : x < 18446744073709551616) (hx0 : x ≠ 0) (w : World) (hT : Laid w) :
    Calls Tryz.prog 148 #[.int .u64 x] w fun e w' => e = .returned (.int .i64 (Lib.ctz 64 x)) ∧ w' = w := by
  obtain ⟨hlow, hk⟩ := Lib.lowest_bit 64 x hx0 hx
  obtain ⟨hi, htab⟩ := Lib.deBruijn64_at _ hk
  have hcell := hT.1 _ hi
  rw [htab] at hcell
  exact tz_core x _ _ w (by simp; omega) (tz64_key x _ hx hx0 hlow) hi hk hcell

/-! ### A number above 0, taken apart -/
/-- The whole number that stands for a float's digits. -/
def mantW (b : UInt64) : UInt64 := if expW b = 0 then fracW b else fracW b ||| 4503599627370496
def exp0 (b : UInt64) : Int := if expW b = 0 then -1074 else n64 (expW b) - 1075
def tzW (b : UInt64) : Nat := Lib.ctz 64 (mantW b).toNat
def partM (b : UInt64) : UInt64 := mantW b >>> UInt64.ofNat (tzW b)
def partE (b : UInt64) : Int := exp0 b + tzW b
theorem tzW_lt (b : UInt64) (h : mantW b ≠ 0) : tzW b < 64 := by
  have hx := (mantW b).toNat_lt
  exact (Lib.lowest_bit 64 _ (by rw [ne_eq, ← UInt64.toNat_inj] at h; simpa using h) hx).2
theorem tz_w (b : UInt64) (h : mantW b ≠ 0) (w : World) (hT : Laid w) :
    Calls Tryz.prog 148 #[.int .u64 (n64 (mantW b))] w fun e w' => e = .returned (.int .i64 (tzW b)) ∧ w' = w :=
  tz_any _ (mantW b).toNat_lt (by rw [ne_eq, ← UInt64.toNat_inj] at h; simpa using h) w hT
theorem expW_lt (b : UInt64) : n64 (expW b) ≤ 2047 := by
  unfold n64 expW
  rw [UInt64.toNat_and]
  have : (b >>> 52).toNat &&& (2047 : UInt64).toNat ≤ (2047 : UInt64).toNat := Nat.and_le_right
  have e : (2047 : UInt64).toNat = 2047 := rfl
  omega
theorem k_or52 (x : UInt64) : bits .or .u64 (n64 x) 4503599627370496 = n64 (x ||| 4503599627370496) := n64_or x 4503599627370496
attribute [local go_sem] k_2047 k_frac k_or52
attribute [local go_sem high] k_shr52

theorem w64_exp (b : UInt64) : wrap64 (n64 (b >>> 52 &&& 2047)) = n64 (b >>> 52 &&& 2047) := by
  have h1 := expW_lt b
  have h2 := n64_nn (expW b)
  unfold expW at h1 h2
  unfold wrap64
  omega

set_option maxHeartbeats 1000000 in
theorem parts_any (b : UInt64) (hm : mantW b ≠ 0) (w : World) (hT : Laid w) :
    Calls Tryz.prog 118 #[.int .u64 (n64 b)] w fun e w' => e = .returned (.tuple #[.int .u64 (n64 (partM b)), .int .i64 (partE b)]) ∧ w' = w := by
  have Hz := Lib.hid (tz_w b hm w hT)
  have hlt := tzW_lt b hm
  have hE := expW_lt b
  have hE0 := n64_nn (expW b)
  have H24 := Lib.hid (sh64_shr (mantW b) .i64 (tzW b : Int) (by omega) (by omega))
  have hw := w64_exp b
  have HM : Hid (partM b = mantW b >>> UInt64.ofNat (tzW b)) := rfl
  by_cases he : expW b = 0
  · have Hm : Hid (mantW b = fracW b) := by unfold mantW; rw [if_pos he]; exact rfl
    have Hp : Hid (partE b = -1074 + tzW b) := by unfold partE exp0; rw [if_pos he]; exact rfl
    have q4 : decide ((0 : Int) < n64 (b >>> 52 &&& 2047)) = false := by rw [z_pos]; simp [expW] at he; rw [he]; decide
    have h24 := H24.out
    have hz := Hz.out
    rw [Hm.out] at h24 hz
    unfold fracW at h24 hz
    have hs1 : wrap64 (-1074 + (tzW b : Int)) = -1074 + (tzW b : Int) := by unfold wrap64; omega
    clear he hm hE hE0
    generalize tzW b = tz at *
    have Hz2 := Lib.hid hz; clear hz
    go_enter Tryz.func118, Tryz.ntmps118
    go_wp2_with (go_at_call 148; refine Hz2.out.mono ?_; rintro e w ⟨rfl, rfl⟩)
    go_ret2
    refine ⟨?_, rfl⟩
    rw [HM.out, Hp.out, Hm.out, ← n64_shr _ tz hlt]
    exact rfl
  · have Hm : Hid (mantW b = fracW b ||| 4503599627370496) := by unfold mantW; rw [if_neg he]; exact rfl
    have Hp : Hid (partE b = n64 (expW b) - 1075 + tzW b) := by unfold partE exp0; rw [if_neg he]; exact rfl
    have q4 : decide ((0 : Int) < n64 (b >>> 52 &&& 2047)) = true := by rw [z_pos]; have := upos.2 he; simpa [expW] using this
    have h24 := H24.out
    have hz := Hz.out
    rw [Hm.out] at h24 hz
    unfold fracW at h24 hz
    have hs1 : wrap64 (n64 (b >>> 52 &&& 2047) - 1075) = n64 (b >>> 52 &&& 2047) - 1075 := by unfold expW at hE hE0; unfold wrap64; omega
    have hs2 : wrap64 (n64 (b >>> 52 &&& 2047) - 1075 + (tzW b : Int)) = n64 (b >>> 52 &&& 2047) - 1075 + (tzW b : Int) := by unfold expW at hE hE0; unfold wrap64; omega
    clear he hm hE hE0
    generalize tzW b = tz at *
    have HS2 := Lib.hid hs2; clear hs2
    have Hz2 := Lib.hid hz; clear hz
    go_enter Tryz.func118, Tryz.ntmps118
    go_wp2_with (go_at_call 148; refine Hz2.out.mono ?_; rintro e w ⟨rfl, rfl⟩)
    go_ret2
    refine ⟨?_, rfl⟩
    rw [HM.out, Hp.out, Hm.out, ← n64_shr _ tz hlt]
    unfold expW fracW
    exact congrArg (fun z => Ending.returned (Value.tuple #[.int .u64 (n64 (b &&& 4503599627370495 ||| 4503599627370496) / 2 ^ tz), .int .i64 z])) HS2.out

set_option maxHeartbeats 6400000 in
set_option maxRecDepth 100000 in
theorem formatUint_any (x : UInt64) (hx0 : x ≠ 0) (w : World) (hT : Laid w) :
    Calls Tryz.prog 149 #[.int .u64 (n64 x), .int .i64 10] w fun e w' => e = .returned (.string (bs (Lib.decDigits x.toNat))) ∧ Below w.heap.size w w' := by
  have hx := x.toNat_lt
  have hx1 : 1 ≤ x.toNat := by
    rcases Nat.eq_zero_or_pos x.toNat with h | h
    · exact absurd (UInt64.toNat_inj.1 (by simpa using h)) hx0
    · exact h
  unfold n64
  generalize x.toNat = u at *
  clear hx0
  by_cases hs : u < 100
  · have q1 : decide ((u : Int) < 100) = true := by simp; omega
    have q2 : wrap64 (u : Int) = u := by unfold wrap64; omega
    have Hs := Lib.hid hs; clear hs
    go_enter Tryz.func149, Tryz.ntmps149
    go_wp2_with (go_at_call 162; refine (Tryz.internal_strconv_small u Hs.out _).mono ?_; rintro e w ⟨rfl, rfl⟩)
    go_ret
    exact ⟨rfl, Below.refl _ _⟩
  · have q1 : decide ((u : Int) < 100) = false := by simp; omega
    have htab := hT.2.1
    have hnd20 : Lib.nDigits u ≤ 20 := by have := Lib.numDigits_eq u hx1 hx; split at this <;> omega
    have hal : Tryz.prog.arrayLen 176 = 24 := by kernel_rfl
    have hsl1 : ∀ W, (Instr.sliceAt 176 (.pointer (some ⟨w.heap.size, 0, none⟩)) none (some (.int .i64 (Lib.nDigits u : Int))) none).run Tryz.prog W = .ok (.slice (some ⟨w.heap.size, 0, none⟩) (Lib.nDigits u) 24) W := fun W => by
      rw [run_sliceAt_array_h W 176 ⟨w.heap.size, 0, none⟩ (by kernel_rfl) .i64 (Lib.nDigits u : Int) (by omega) (by rw [hal]; omega)]
      go_simp
    have hH0 := Lib.holds_zero0 w 176 (Lib.nDigits u) (by omega)
    have hfmt := Tryz.internal_strconv_formatBase10 w.heap.size 0 24 u (Array.replicate (Lib.nDigits u) 0) (w.alloc (.cells Lib.zeros24 176)) hH0 (by rw [Array.size_replicate]; exact Lib.lt_pow_nDigits u) hx (by rw [Array.size_replicate]; omega)
    rw [Array.size_replicate] at hfmt
    have HH0 := Lib.hid hH0
    clear hH0 hal hs
    have HF := Lib.hid hfmt; clear hfmt
    have Htab := Lib.hid htab; clear htab
    have Hx1 := Lib.hid hx1; clear hx1
    have Hx := Lib.hid hx; clear hx
    go_enter Tryz.func149, Tryz.ntmps149
    go_wp2_with (first
      | (go_at_call 163; refine (Tryz.internal_strconv_numDigits u Hx1.out Hx.out _ (Lib.tabIs_alloc Htab.out _)).mono ?_; rintro e w' ⟨rfl, rfl⟩))
    go_at_call 164
    refine HF.out.mono ?_
    rintro e w' ⟨rfl, k, v', dk, rfl, hF⟩
    have hcv : (convert 106 9 (.slice (some ⟨w.heap.size, 0, none⟩) (Lib.nDigits u) 24)).run Tryz.prog ((putRow (fun (b : UInt8) => Value.int .u8 (b.toNat : Int)) (w.alloc (.cells Lib.zeros24 176)) w.heap.size 0 dk).drewN k) = .ok (.string (bs (Lib.decDigits u))) ((putRow (fun (b : UInt8) => Value.int .u8 (b.toNat : Int)) (w.alloc (.cells Lib.zeros24 176)) w.heap.size 0 dk).drewN k) := by
      have h := run_convert_bytes_back (P := Tryz.prog) ((putRow (fun (b : UInt8) => Value.int .u8 (b.toNat : Int)) (w.alloc (.cells Lib.zeros24 176)) w.heap.size 0 dk).drewN k) 106 9 5 ⟨w.heap.size, 0, none⟩ 24 (Lib.decDigits u) (by kernel_rfl) (by kernel_rfl) (by kernel_rfl) (fun j hj => by
        rw [Lib.row_is_numeral hF j hj, Lib.add_plain, World.cell?_drewN]
        exact cell?_putRow (fun (b : UInt8) => Value.int .u8 (b.toNat : Int)) _ w.heap.size 0 _ dk HH0.out (by rw [hF.size, Array.size_replicate]) j (by rw [hF.size]; rw [Lib.decDigits_length] at hj; exact hj))
      rw [Lib.decDigits_length] at h
      exact h
    go_wp2
    go_ret
    obtain ⟨os, eo⟩ := Lib.fin_at w (.cells Lib.zeros24 176) dk k 0
    rw [eo]
    exact ⟨rfl, Lib.below_grow _ _ (Nat.le_refl _) _ _⟩

theorem formatUintS_any (x : UInt64) (hx0 : x ≠ 0) (w : World) (hT : Laid w) :
    Calls Tryz.prog 119 #[.int .u64 (n64 x), .int .i64 10] w fun e w' => e = .returned (.string (bs (Lib.decDigits x.toNat))) ∧ Below w.heap.size w w' := by
  go_enter Tryz.func119, Tryz.ntmps119
  go_wp2_with (go_at_call 149; refine (formatUint_any x hx0 _ hT).mono ?_; rintro e w' ⟨rfl, hb⟩)
  go_ret
  exact ⟨rfl, hb⟩

theorem itoa_any (n : Int) (h0 : -9223372036854775808 ≤ n) (h1 : n ≤ 9223372036854775807) (w : World) (hT : Laid w) :
    Calls Tryz.prog 120 #[.int .i64 n] w fun e w' => e = .returned (.string (bs (Lib.itoa n))) ∧ Below w.heap.size w w' := by
  refine (Tryz.strconv_Itoa n h0 h1 w hT.2.1).mono ?_
  rintro e w' ⟨rfl, k, os, rfl⟩
  exact ⟨rfl, Lib.below_grow _ _ (Nat.le_refl _) _ _⟩
end Go.Proofs.YtalpbphfmelhhaaGreatDoor

/-! ### The walks of num's Print and of the reference's. -/
namespace Go.Proofs.YtalpbphfmelhhaaGreatDoor
set_option maxRecDepth 100000
open Go.RowKit Go.Shelf Go.Sort

theorem run_add_bs {P : Program} (a b : List UInt8) (h : a.length + b.length ≤ 9223372036854775807) (w : World) : (Op.stringOp .add (bs a) (bs b)).run P w = .ok (.string (bs (a ++ b))) w := by
  rw [run_string_add_sum w _ _ (by rw [bs_size, bs_size]; exact h)]
  unfold bs; rw [ByteArray.mk_append_mk]
theorem u64_ne0 {x : UInt64} (h : x ≠ 0) : x.toNat ≠ 0 := fun h' => h (UInt64.toNat_inj.1 (by simpa using h'))
theorem u64_of_ne0 {x : UInt64} (h : x.toNat ≠ 0) : x ≠ 0 := fun h' => h (by rw [h']; rfl)
/-- The odd part and the twos. -/
theorem partM_spec (b : UInt64) (h : mantW b ≠ 0) : (mantW b).toNat = (partM b).toNat * 2 ^ tzW b ∧ (partM b).toNat % 2 = 1 := by
  have hx := (mantW b).toNat_lt
  have h0 := u64_ne0 h
  have hlt := tzW_lt b h
  obtain ⟨m, hm, hk⟩ := Lib.ctzFrom_spec 64 (mantW b).toNat (by omega) hx
  have e : tzW b = Lib.ctzFrom 64 (mantW b).toNat := by unfold tzW Lib.ctz; rw [if_neg h0]
  have e2 : (partM b).toNat = 2 * m + 1 := by
    unfold partM
    rw [UInt64.toNat_shiftRight, UInt64.toNat_ofNat', Nat.mod_eq_of_lt (show tzW b < 2 ^ 64 by omega), Nat.mod_eq_of_lt hlt, Nat.shiftRight_eq_div_pow]
    rw [← e] at hm
    conv => lhs; rw [hm]
    rw [Nat.mul_div_cancel_left _ (Nat.two_pow_pos _)]
  rw [e2]
  refine ⟨?_, by omega⟩
  rw [Nat.mul_comm, e]; exact hm
theorem partM_ne0 (b : UInt64) (h : mantW b ≠ 0) : partM b ≠ 0 := u64_of_ne0 (by have := (partM_spec b h).2; omega)

/-- A float's text. -/
def signS (x : UInt64) : List UInt8 := if canon x &&& topW ≠ 0 then [45] else []
def magW (x : UInt64) : UInt64 := canon x &&& ~~~topW
def printOf (x : UInt64) : List UInt8 :=
  if classOf x = 0 then [110, 97, 110]
  else if classOf x = 1 ∨ classOf x = 8 then signS x ++ [105, 110, 102]
  else if classOf x = 4 ∨ classOf x = 5 then signS x ++ [48]
  else signS x ++ Lib.decDigits (partM (magW x)).toNat ++ [112] ++ Lib.itoa (partE (magW x))
/-! Words as whole numbers. -/
theorem expW_nat (x : UInt64) : (expW x).toNat = x.toNat / 4503599627370496 % 2048 := by
  unfold expW
  rw [UInt64.toNat_and, UInt64.toNat_shiftRight]
  have e1 : (52 : UInt64).toNat % 64 = 52 := rfl
  have e2 : (2047 : UInt64).toNat = 2 ^ 11 - 1 := rfl
  rw [e1, e2, Nat.and_two_pow_sub_one_eq_mod, Nat.shiftRight_eq_div_pow]
theorem fracW_nat (x : UInt64) : (fracW x).toNat = x.toNat % 4503599627370496 := by
  unfold fracW
  rw [UInt64.toNat_and]
  have e2 : (4503599627370495 : UInt64).toNat = 2 ^ 52 - 1 := rfl
  rw [e2, Nat.and_two_pow_sub_one_eq_mod]
theorem and_top_low (i b : Nat) (h : b < 2 ^ i) : 2 ^ i &&& b = 0 := by
  apply Nat.eq_of_testBit_eq
  intro j
  rw [Nat.testBit_and, Nat.testBit_two_pow, Nat.zero_testBit]
  by_cases hj : i = j
  · subst hj; rw [Nat.testBit_lt_two_pow h]; simp
  · simp [hj]
theorem top_nat (x : UInt64) : (x &&& topW).toNat = if 9223372036854775808 ≤ x.toNat then 9223372036854775808 else 0 := by
  have hx := x.toNat_lt
  rw [UInt64.toNat_and]
  have e2 : topW.toNat = 2 ^ 63 := rfl
  rw [e2]
  split
  · have h1 : x.toNat = 2 ^ 63 + x.toNat % 2 ^ 63 := by omega
    have h2 := Nat.two_pow_add_eq_or_of_lt (i := 63) (b := x.toNat % 2 ^ 63) (by omega) 1
    rw [Nat.mul_one] at h2
    rw [h1, h2, Nat.and_or_distrib_right, Nat.and_self, Nat.and_comm (x.toNat % 2 ^ 63)]
    have h3 : 2 ^ 63 &&& x.toNat % 2 ^ 63 = 0 := and_top_low 63 _ (by omega)
    rw [h3]; rfl
  · rw [Nat.and_comm]; exact and_top_low 63 _ (by omega)
theorem top_ne0 (x : UInt64) : x &&& topW ≠ 0 ↔ 9223372036854775808 ≤ x.toNat := by
  rw [ne_eq, ← UInt64.toNat_inj, top_nat]
  split <;> simp <;> omega
theorem top_eq0 (x : UInt64) : x &&& topW = 0 ↔ x.toNat < 9223372036854775808 := by
  have := top_ne0 x
  constructor
  · intro h; rcases Nat.lt_or_ge x.toNat 9223372036854775808 with h' | h'
    · exact h'
    · exact absurd h (this.2 h')
  · intro h; by_cases h' : x &&& topW = 0
    · exact h'
    · have := this.1 h'; omega
theorem notop_nat (x : UInt64) : (x &&& ~~~topW).toNat = x.toNat % 9223372036854775808 := by
  rw [UInt64.toNat_and]
  have e2 : (~~~topW).toNat = 2 ^ 63 - 1 := rfl
  rw [e2, Nat.and_two_pow_sub_one_eq_mod]
theorem ortop_nat (x : UInt64) (h : x.toNat < 9223372036854775808) : (x ||| topW).toNat = x.toNat + 9223372036854775808 := by
  rw [UInt64.toNat_or]
  have e2 : topW.toNat = 2 ^ 63 := rfl
  have h2 := Nat.two_pow_add_eq_or_of_lt (i := 63) (b := x.toNat) (by omega) 1
  rw [Nat.mul_one] at h2
  rw [e2, Nat.or_comm, ← h2]; omega
theorem or52_nat (x : UInt64) (h : x.toNat < 4503599627370496) : (x ||| 4503599627370496).toNat = x.toNat + 4503599627370496 := by
  rw [UInt64.toNat_or]
  have e2 : (4503599627370496 : UInt64).toNat = 2 ^ 52 := rfl
  have h2 := Nat.two_pow_add_eq_or_of_lt (i := 52) (b := x.toNat) (by omega) 1
  rw [Nat.mul_one] at h2
  rw [e2, Nat.or_comm, ← h2]; omega
theorem magE (x : UInt64) : expW (magW x) = expW (canon x) := by
  apply UInt64.toNat_inj.1
  unfold magW
  rw [expW_nat, expW_nat, notop_nat]
  omega
theorem magF (x : UInt64) : fracW (magW x) = fracW (canon x) := by
  apply UInt64.toNat_inj.1
  unfold magW
  rw [fracW_nat, fracW_nat, notop_nat]
  omega
theorem mantW_nat (x : UInt64) : (mantW x).toNat = if x.toNat / 4503599627370496 % 2048 = 0 then x.toNat % 4503599627370496 else x.toNat % 4503599627370496 + 4503599627370496 := by
  unfold mantW
  have e : expW x = 0 ↔ x.toNat / 4503599627370496 % 2048 = 0 := by
    rw [← expW_nat, ← UInt64.toNat_inj]; exact Iff.rfl
  by_cases h : expW x = 0
  · rw [if_pos h, if_pos (e.1 h), fracW_nat]
  · rw [if_neg h, if_neg (fun h' => h (e.2 h')), or52_nat _ (by rw [fracW_nat]; omega), fracW_nat]
/-- A class that is a number above or below 0. -/
theorem mag_ne0 (x : UInt64) (_h0 : classOf x ≠ 0) (h4 : classOf x ≠ 4) (h5 : classOf x ≠ 5) : mantW (magW x) ≠ 0 := by
  unfold mantW; rw [magE, magF]
  by_cases he : expW (canon x) = 0
  · rw [if_pos he]
    intro hf
    unfold classOf classC at h4 h5
    simp only [he, hf] at h4 h5
    by_cases hs : canon x &&& topW = 0
    · exact h5 (by simp [hs])
    · exact h4 (by simp [hs])
  · rw [if_neg he]; apply u64_of_ne0; rw [or52_nat _ (by rw [fracW_nat]; omega)]; omega
theorem nDigits_le (x : UInt64) : (Lib.decDigits x.toNat).length ≤ 20 := by
  rw [Lib.decDigits_length]
  rcases Nat.eq_zero_or_pos x.toNat with h | h
  · rw [← Lib.decDigits_length, h, Lib.decDigits_one (by omega)]; simp
  · have := Lib.numDigits_eq x.toNat h x.toNat_lt; split at this <;> omega
theorem partE_bd (b : UInt64) (h : mantW b ≠ 0) : -1074 ≤ partE b ∧ partE b ≤ 1100 := by
  have h1 := expW_lt b
  have h2 := n64_nn (expW b)
  have h3 := tzW_lt b h
  unfold partE exp0
  split
  · omega
  · have : n64 (expW b) ≠ 0 := by
      intro hh; have : expW b = 0 := n64_inj.1 hh
      contradiction
    omega
attribute [local go_sem] k_top k_antop

set_option maxHeartbeats 2000000 in
theorem print_core (x : UInt64) (w : World) (hT : Laid w) (c : Int) (hc : Hid (classOf x = c)) (sg : Bool) (s : List UInt8)
    (hsg : (n64 (canon x &&& topW) != 0) = sg) (hss : Hid (s = if sg then [45] else []))
    (b0 b1 b8 b4 b5 : Bool) (q0 : (c == 0) = b0) (q1 : (c == 1) = b1) (q8 : (c == 8) = b8) (q4 : (c == 4) = b4) (q5 : (c == 5) = b5)
    (hm : Hid (b0 = false → b4 = false → b5 = false → mantW (magW x) ≠ 0)) :
    Calls Tryz.prog 94 #[.float .f64 (fb x)] w fun e w' => e = .returned (.string (bs (
      if b0 then [110, 97, 110] else if b1 || b8 then s ++ [105, 110, 102] else if b4 || b5 then s ++ [48]
      else s ++ Lib.decDigits (partM (magW x)).toNat ++ [112] ++ Lib.itoa (partE (magW x))))) ∧ Below w.heap.size w w' := by
  obtain ⟨D, HD⟩ : ∃ D, Hid (D = Lib.decDigits (partM (magW x)).toNat) := ⟨_, rfl⟩
  obtain ⟨E, HE⟩ : ∃ E, Hid (E = Lib.itoa (partE (magW x))) := ⟨_, rfl⟩
  have hDl : D.length ≤ 20 := by rw [HD.out]; exact nDigits_le _
  obtain ⟨t1, H1⟩ : ∃ t, Hid (t = s ++ D) := ⟨_, rfl⟩
  obtain ⟨t2, H2⟩ : ∃ t, Hid (t = t1 ++ [112]) := ⟨t1 ++ [112], Eq.refl _⟩
  obtain ⟨t3, H3⟩ : ∃ t, Hid (t = t2 ++ E) := ⟨_, rfl⟩
  rw [← HD.out, ← HE.out, ← H1.out, ← H2.out, ← H3.out]
  have hsl : s.length ≤ 1 := by rw [hss.out]; cases sg <;> simp
  have hl1 : t1.length ≤ 21 := by rw [H1.out]; simp; omega
  have hl2 : t2.length ≤ 22 := by rw [H2.out]; simp; omega
  have j1 : ∀ W, (Op.stringOp .add (bs s) (bs D)).run Tryz.prog W = .ok (.string (bs t1)) W := fun W => by rw [H1.out]; exact run_add_bs _ _ (by omega) W
  have j2 : ∀ W, (Op.stringOp .add (bs t1) (bs [112])).run Tryz.prog W = .ok (.string (bs t2)) W := fun W => by rw [H2.out]; exact run_add_bs _ _ (by simp; omega) W
  have J2 : ∀ W, (Op.stringOp .add (bs t1) ⟨#[112]⟩).run Tryz.prog W = .ok (.string (bs t2)) W := j2
  have HE2 : Hid (mantW (magW x) ≠ 0 → E.length ≤ 21) := fun h => by
    have hb := partE_bd _ h
    rw [HE.out]; exact Lib.itoa_length_le _ (by omega) (by omega)
  have J3 : Hid (mantW (magW x) ≠ 0 → ∀ W, (Op.stringOp .add (bs t2) (bs E)).run Tryz.prog W = .ok (.string (bs t3)) W) := fun h W => by
    have := HE2.out h
    rw [H3.out]; exact run_add_bs _ _ (by omega) W
  have HH : Hid (∀ W, Laid W → mantW (magW x) ≠ 0 → Calls Tryz.prog 119 #[.int .u64 (n64 (partM (magW x))), .int .i64 10] W fun e w' => e = .returned (.string (bs D)) ∧ Below W.heap.size W w') := fun W hW h => by
    rw [HD.out]; exact formatUintS_any _ (partM_ne0 _ h) W hW
  have HI : Hid (∀ W, Laid W → mantW (magW x) ≠ 0 → Calls Tryz.prog 120 #[.int .i64 (partE (magW x))] W fun e w' => e = .returned (.string (bs E)) ∧ Below W.heap.size W w') := fun W hW h => by
    have hb := partE_bd _ h
    rw [HE.out]; exact itoa_any _ (by omega) (by omega) W hW
  have HP : Hid (∀ W, Laid W → mantW (magW x) ≠ 0 → Calls Tryz.prog 118 #[.int .u64 (n64 (canon x &&& ~~~topW))] W fun e w' => e = .returned (.tuple #[.int .u64 (n64 (partM (magW x))), .int .i64 (partE (magW x))]) ∧ w' = W) := fun W hW h => parts_any _ h W hW
  clear hsl hl1 hl2 hDl j2
  cases hsv : sg
  case true =>
    subst hsv
    obtain rfl : s = [45] := by simpa using hss.out
    have J1 : ∀ W, (Op.stringOp .add ⟨#[45]⟩ (bs D)).run Tryz.prog W = .ok (.string (bs t1)) W := j1
    clear j1
    cases hb0 : b0
    case true =>
      subst hb0
      go_enter Tryz.func94, Tryz.ntmps94
      go_wp2_with (first | (go_at_call 100; refine (bitsF_any _ _).mono ?_; rintro e w ⟨rfl, rfl⟩) | (go_at_call 101; refine (class_any _ _).mono ?_; rw [hc.out]; rintro e w ⟨rfl, rfl⟩))
      go_ret
      exact ⟨rfl, Below.refl _ _⟩
    case false =>
    cases hb1 : b1
    case true =>
      subst hb0 hb1
      go_enter Tryz.func94, Tryz.ntmps94
      go_wp2_with (first | (go_at_call 100; refine (bitsF_any _ _).mono ?_; rintro e w ⟨rfl, rfl⟩) | (go_at_call 101; refine (class_any _ _).mono ?_; rw [hc.out]; rintro e w ⟨rfl, rfl⟩))
      go_ret
      exact ⟨rfl, Below.refl _ _⟩
    case false =>
    cases hb8 : b8
    case true =>
      subst hb0 hb1 hb8
      go_enter Tryz.func94, Tryz.ntmps94
      go_wp2_with (first | (go_at_call 100; refine (bitsF_any _ _).mono ?_; rintro e w ⟨rfl, rfl⟩) | (go_at_call 101; refine (class_any _ _).mono ?_; rw [hc.out]; rintro e w ⟨rfl, rfl⟩))
      go_ret
      exact ⟨rfl, Below.refl _ _⟩
    case false =>
    cases hb4 : b4
    case true =>
      subst hb0 hb1 hb8 hb4
      go_enter Tryz.func94, Tryz.ntmps94
      go_wp2_with (first | (go_at_call 100; refine (bitsF_any _ _).mono ?_; rintro e w ⟨rfl, rfl⟩) | (go_at_call 101; refine (class_any _ _).mono ?_; rw [hc.out]; rintro e w ⟨rfl, rfl⟩))
      go_ret
      exact ⟨rfl, Below.refl _ _⟩
    case false =>
    cases hb5 : b5
    case true =>
      subst hb0 hb1 hb8 hb4 hb5
      go_enter Tryz.func94, Tryz.ntmps94
      go_wp2_with (first | (go_at_call 100; refine (bitsF_any _ _).mono ?_; rintro e w ⟨rfl, rfl⟩) | (go_at_call 101; refine (class_any _ _).mono ?_; rw [hc.out]; rintro e w ⟨rfl, rfl⟩))
      go_ret
      exact ⟨rfl, Below.refl _ _⟩
    case false =>
    have hm0 := Lib.hid (hm.out hb0 hb4 hb5)
    have J3' := J3.out hm0.out
    subst hb0 hb1 hb8 hb4 hb5
    go_enter Tryz.func94, Tryz.ntmps94
    go_wp2_with (first | (go_at_call 100; refine (bitsF_any _ _).mono ?_; rintro e w ⟨rfl, rfl⟩) | (go_at_call 101; refine (class_any _ _).mono ?_; rw [hc.out]; rintro e w ⟨rfl, rfl⟩) | (go_at_call 118; refine (HP.out _ hT hm0.out).mono ?_; rintro e w ⟨rfl, rfl⟩) | (go_at_call 119; refine (HH.out _ hT hm0.out).mono ?_; rintro e w1 ⟨rfl, hb⟩))
    go_at_call 120; refine (HI.out _ (hT.below hb) hm0.out).mono ?_; rintro e w2 ⟨rfl, hb2⟩
    go_wp2
    go_ret
    exact ⟨rfl, hb.trans (hb2.mono hb.size)⟩
  case false =>
    subst hsv
    obtain rfl : s = [] := by simpa using hss.out
    have J1 : ∀ W, (Op.stringOp .add ⟨#[]⟩ (bs D)).run Tryz.prog W = .ok (.string (bs t1)) W := j1
    clear j1
    cases hb0 : b0
    case true =>
      subst hb0
      go_enter Tryz.func94, Tryz.ntmps94
      go_wp2_with (first | (go_at_call 100; refine (bitsF_any _ _).mono ?_; rintro e w ⟨rfl, rfl⟩) | (go_at_call 101; refine (class_any _ _).mono ?_; rw [hc.out]; rintro e w ⟨rfl, rfl⟩))
      go_ret
      exact ⟨rfl, Below.refl _ _⟩
    case false =>
    cases hb1 : b1
    case true =>
      subst hb0 hb1
      go_enter Tryz.func94, Tryz.ntmps94
      go_wp2_with (first | (go_at_call 100; refine (bitsF_any _ _).mono ?_; rintro e w ⟨rfl, rfl⟩) | (go_at_call 101; refine (class_any _ _).mono ?_; rw [hc.out]; rintro e w ⟨rfl, rfl⟩))
      go_ret
      exact ⟨rfl, Below.refl _ _⟩
    case false =>
    cases hb8 : b8
    case true =>
      subst hb0 hb1 hb8
      go_enter Tryz.func94, Tryz.ntmps94
      go_wp2_with (first | (go_at_call 100; refine (bitsF_any _ _).mono ?_; rintro e w ⟨rfl, rfl⟩) | (go_at_call 101; refine (class_any _ _).mono ?_; rw [hc.out]; rintro e w ⟨rfl, rfl⟩))
      go_ret
      exact ⟨rfl, Below.refl _ _⟩
    case false =>
    cases hb4 : b4
    case true =>
      subst hb0 hb1 hb8 hb4
      go_enter Tryz.func94, Tryz.ntmps94
      go_wp2_with (first | (go_at_call 100; refine (bitsF_any _ _).mono ?_; rintro e w ⟨rfl, rfl⟩) | (go_at_call 101; refine (class_any _ _).mono ?_; rw [hc.out]; rintro e w ⟨rfl, rfl⟩))
      go_ret
      exact ⟨rfl, Below.refl _ _⟩
    case false =>
    cases hb5 : b5
    case true =>
      subst hb0 hb1 hb8 hb4 hb5
      go_enter Tryz.func94, Tryz.ntmps94
      go_wp2_with (first | (go_at_call 100; refine (bitsF_any _ _).mono ?_; rintro e w ⟨rfl, rfl⟩) | (go_at_call 101; refine (class_any _ _).mono ?_; rw [hc.out]; rintro e w ⟨rfl, rfl⟩))
      go_ret
      exact ⟨rfl, Below.refl _ _⟩
    case false =>
    have hm0 := Lib.hid (hm.out hb0 hb4 hb5)
    have J3' := J3.out hm0.out
    subst hb0 hb1 hb8 hb4 hb5
    go_enter Tryz.func94, Tryz.ntmps94
    go_wp2_with (first | (go_at_call 100; refine (bitsF_any _ _).mono ?_; rintro e w ⟨rfl, rfl⟩) | (go_at_call 101; refine (class_any _ _).mono ?_; rw [hc.out]; rintro e w ⟨rfl, rfl⟩) | (go_at_call 118; refine (HP.out _ hT hm0.out).mono ?_; rintro e w ⟨rfl, rfl⟩) | (go_at_call 119; refine (HH.out _ hT hm0.out).mono ?_; rintro e w1 ⟨rfl, hb⟩))
    go_at_call 120; refine (HI.out _ (hT.below hb) hm0.out).mono ?_; rintro e w2 ⟨rfl, hb2⟩
    go_wp2
    go_ret
    exact ⟨rfl, hb.trans (hb2.mono hb.size)⟩
end Go.Proofs.YtalpbphfmelhhaaGreatDoor

/-! ### The walks of raceref's Dec and the reference's Print. -/
namespace Go.Proofs.YtalpbphfmelhhaaGreatDoor
set_option maxRecDepth 100000
open Go.RowKit Go.Shelf Go.Sort

/-- Halfway through the digits, from the right. -/
structure DecAt (n cur : Int) (s : List UInt8) : Prop where
  lo : -9223372036854775808 ≤ cur
  hi : cur ≤ 9223372036854775807
  done : cur = 0 → s = Lib.decDigits n.natAbs
  more : cur ≠ 0 → Lib.decDigits n.natAbs = Lib.decDigits cur.natAbs ++ s
  len : s.length ≤ 20
theorem nDigits_le' (u : Nat) (h : u < 18446744073709551616) : (Lib.decDigits u).length ≤ 20 := by
  have := nDigits_le (UInt64.ofNat u)
  rwa [UInt64.toNat_ofNat', Nat.mod_eq_of_lt h] at this
theorem tdiv10_abs (c : Int) : (c.tdiv 10).natAbs = c.natAbs / 10 := by rw [Int.natAbs_tdiv]; rfl
theorem DecAt.step {n cur : Int} {s : List UInt8} (h : DecAt n cur s) (hc : cur ≠ 0) (h0 : -9223372036854775808 ≤ n) (h1 : n ≤ 9223372036854775807) :
    DecAt n (cur.tdiv 10) (UInt8.ofNat (48 + cur.natAbs % 10) :: s) := by
  have ha := tdiv10_abs cur
  have hm := h.more hc
  have hlen := nDigits_le' n.natAbs (by omega)
  have hlo := h.lo
  have hhi := h.hi
  have h1 : 1 ≤ (Lib.decDigits cur.natAbs).length := by
    rw [Lib.decDigits]; split <;> simp
  refine ⟨by omega, by omega, fun hq => ?_, fun hq => ?_, ?_⟩
  · have hlt : cur.natAbs < 10 := by omega
    rw [hm, Lib.decDigits_one hlt, Nat.mod_eq_of_lt hlt]; rfl
  · have hge : ¬ cur.natAbs < 10 := by omega
    rw [hm, ha]
    conv => lhs; rw [Lib.decDigits]
    rw [dif_neg hge]; simp
  · rw [hm] at hlen; simp at hlen ⊢; omega

set_option maxRecDepth 100000 in
set_option maxHeartbeats 2000000 in
theorem dec_any (n : Int) (h0 : -9223372036854775808 ≤ n) (h1 : n ≤ 9223372036854775807) (w : World) :
    Calls Tryz.prog 121 #[.int .i64 n] w fun e w' => e = .returned (.string (bs (Lib.itoa n))) ∧ Below w.heap.size w w' := by
  by_cases hz : n = 0
  · subst hz
    go_enter Tryz.func121, Tryz.ntmps121
    go_wp2
    go_ret
    refine ⟨?_, Below.refl _ _⟩
    rw [Lib.itoa, if_neg (by omega), Lib.decDigits_one (by decide)]; rfl
  · have hz0 : (n == 0) = false := beq_eq_false_iff_ne.2 hz
    go_enter Tryz.func121, Tryz.ntmps121
    go_wp2_with fail
    go_loopw [3, 4] (fun s i wr => ∃ (l : List UInt8) (cur : Int), s = .string (bs l) ∧ i = .int .i64 cur ∧ DecAt n cur l ∧ Below w.heap.size w wr) (fun _ i _ => (intOf i).natAbs)
    case atStart => exact ⟨[], n, rfl, rfl, ⟨h0, h1, fun h => absurd h hz, fun _ => by simp, by simp⟩, Below.refl _ _⟩
    case round =>
      obtain ⟨l, cur, rfl, rfl, hd, hb⟩ := hrel
      by_cases hc : cur = 0
      · subst hc
        have hl := hd.done rfl
        subst hl
        have hlen := Lib.hid (nDigits_le' n.natAbs (by omega))
        by_cases hn : n < 0
        · have hn' : decide (n < 0) = true := by simpa using hn
          have HI : Hid (Lib.itoa n = 45 :: Lib.decDigits n.natAbs) := by unfold Lib.itoa; rw [if_pos hn]; exact rfl
          generalize Lib.decDigits n.natAbs = D at *
          have j : ∀ W, (Op.stringOp .add ⟨#[45]⟩ (bs D)).run Tryz.prog W = .ok (.string (bs (45 :: D))) W := fun W => run_add_bs [45] D (by have := hlen.out; simp; omega) W
          clear hn
          go_wp2
          go_ret
          exact ⟨by rw [HI.out]; rfl, hb⟩
        · have hn' : decide (n < 0) = false := by simpa using hn
          have HI : Hid (Lib.itoa n = Lib.decDigits n.natAbs) := by unfold Lib.itoa; rw [if_neg hn, show n.toNat = n.natAbs by omega]; exact rfl
          generalize Lib.decDigits n.natAbs = D at *
          clear hn
          go_wp2
          go_ret
          exact ⟨by rw [HI.out]; rfl, hb⟩
      · have q1 : (cur != 0) = true := by simp [hc]
        have HS := Lib.hid (hd.step hc h0 h1)
        have hlo := hd.lo
        have hhi := hd.hi
        have hll := hd.len
        have habs := tdiv10_abs cur
        have HQ : Hid (wrap64 (cur.tdiv 10) = cur.tdiv 10) := by unfold Hid wrap64; omega
        have hA : cur.natAbs % 10 < 10 := by omega
        have hA1 : cur.tmod 10 = if cur < 0 then -((cur.natAbs % 10 : Nat) : Int) else ((cur.natAbs % 10 : Nat) : Int) := by
          have := Int.natAbs_tmod cur 10
          have hs := Int.tmod_eq_emod (a := cur) (b := 10)
          split at hs <;> split <;> omega
        have Hmeas : Hid (cur.natAbs / 10 < cur.natAbs) := by unfold Hid; omega
        generalize cur.natAbs % 10 = a at *
        obtain ⟨d, Hd⟩ : ∃ d : UInt8, Hid (d = UInt8.ofNat (48 + a)) := ⟨_, rfl⟩
        have hda : Hid ((48 + (a : Int)) = (d.toNat : Int)) := by
          rw [Hd.out, UInt8.toNat_ofNat', Nat.mod_eq_of_lt (by omega)]; simp [Hid]
        have hcv : ∀ W, W = wr → (convert 106 9 (.slice (some ⟨W.heap.size, 0, none⟩) 1 1)).run Tryz.prog (W.alloc (.cells #[.int .u8 (48 + (a : Int))] 5)) = .ok (.string (bs [d])) (W.alloc (.cells #[.int .u8 (48 + (a : Int))] 5)) := fun W _ =>
          run_convert_bytes_back (P := Tryz.prog) (W.alloc (.cells #[.int .u8 (48 + (a : Int))] 5)) 106 9 5 ⟨W.heap.size, 0, none⟩ 1 [d] (by kernel_rfl) (by kernel_rfl) (by kernel_rfl) (fun j hj => by
            have : j = 0 := by simpa using hj
            subst this
            rw [Lib.add_plain, World.cell?_alloc_new, hda.out]; rfl)
        have hcv := hcv wr rfl
        have hj : ∀ W, (Op.stringOp .add (bs [d]) (bs l)).run Tryz.prog W = .ok (.string (bs (d :: l))) W := fun W => run_add_bs [d] l (by simp; omega) W
        have HB : Hid (Below w.heap.size w (wr.alloc (.cells #[.int .u8 (48 + (a : Int))] 5))) := hb.alloc hb.size _
        rw [← Hd.out] at HS
        have Hc := Lib.hid hc
        clear hlo hhi habs hd hb hll hc Hd h0 h1
        by_cases hn : cur < 0
        · rw [if_pos hn] at hA1
          clear hn
          by_cases ha0 : a = 0
          · have hA2 : cur.tmod 10 = (a : Int) := by rw [hA1, ha0]; rfl
            clear ha0 hA1
            go_wp2
            go_roundw
            case rel => exact ⟨_, _, rfl, congrArg (Value.int .i64) HQ.out, HS.out, HB.out⟩
            case measure => simp only [intOf]; show (wrap64 (cur.tdiv 10)).natAbs < cur.natAbs; rw [HQ.out, tdiv10_abs]; exact Hmeas.out
          · have q2 : decide (0 < a) = true := by simp; omega
            clear ha0
            go_wp2
            go_roundw
            case rel => exact ⟨_, _, rfl, congrArg (Value.int .i64) HQ.out, HS.out, HB.out⟩
            case measure => simp only [intOf]; show (wrap64 (cur.tdiv 10)).natAbs < cur.natAbs; rw [HQ.out, tdiv10_abs]; exact Hmeas.out
        · rw [if_neg hn] at hA1
          clear hn
          go_wp2
          go_roundw
          case rel => exact ⟨_, _, rfl, congrArg (Value.int .i64) HQ.out, HS.out, HB.out⟩
          case measure => simp only [intOf]; show (wrap64 (cur.tdiv 10)).natAbs < cur.natAbs; rw [HQ.out, tdiv10_abs]; exact Hmeas.out
end Go.Proofs.YtalpbphfmelhhaaGreatDoor

/-! ### The walk of the reference's Print. -/
namespace Go.Proofs.YtalpbphfmelhhaaGreatDoor
set_option maxRecDepth 100000
open Go.RowKit Go.Shelf Go.Sort

/-- Halving: behind k steps. -/
theorem half_even (b : UInt64) (h : mantW b ≠ 0) (k : Nat) (m : Nat) (hk : k ≤ tzW b) (hm : m * 2 ^ k = (mantW b).toNat) (he : m % 2 = 0) : k < tzW b := by
  rcases Nat.lt_or_ge k (tzW b) with h' | h'
  · exact h'
  · exfalso
    have hk' : k = tzW b := by omega
    obtain ⟨h1, h2⟩ := partM_spec b h
    rw [← hm, hk'] at h1
    have := Nat.eq_of_mul_eq_mul_right (Nat.two_pow_pos _) h1
    omega
theorem half_odd (b : UInt64) (h : mantW b ≠ 0) (k : Nat) (m : Nat) (hk : k ≤ tzW b) (hm : m * 2 ^ k = (mantW b).toNat) (he : m % 2 ≠ 0) : k = tzW b ∧ m = (partM b).toNat := by
  obtain ⟨h1, h2⟩ := partM_spec b h
  obtain ⟨j, hj⟩ : ∃ j, tzW b = k + j := ⟨tzW b - k, by omega⟩
  rw [← hm, hj, Nat.pow_add, ← Nat.mul_assoc, Nat.mul_right_comm] at h1
  have h3 := Nat.eq_of_mul_eq_mul_right (Nat.two_pow_pos _) h1
  cases j with
  | zero => exact ⟨by omega, by simpa using h3⟩
  | succ j =>
    exfalso
    apply he
    rw [h3, Nat.pow_succ, ← Nat.mul_assoc]
    omega
theorem exp0_bd (b : UInt64) : -1074 ≤ exp0 b ∧ exp0 b ≤ 1024 := by
  have h1 := expW_lt b
  have h2 := n64_nn (expW b)
  unfold exp0
  split
  · omega
  · have : n64 (expW b) ≠ 0 := by
      intro hh; have : expW b = 0 := n64_inj.1 hh
      contradiction
    omega
attribute [local go_sem] k_top k_antop k_2047 k_frac k_or52
attribute [local go_sem high] k_shr52

set_option maxHeartbeats 4000000 in
theorem refPrint_num (x : UInt64) (w : World) (h0 : classOf x ≠ 0) (h1 : classOf x ≠ 1) (h8 : classOf x ≠ 8) (h4 : classOf x ≠ 4) (h5 : classOf x ≠ 5) :
    Calls Tryz.prog 96 #[.float .f64 (fb x)] w fun e w' => e = .returned (.string (bs (signS x ++ Lib.decDigits (partM (magW x)).toNat ++ [112] ++ Lib.itoa (partE (magW x))))) ∧ Below w.heap.size w w' := by
  have hm := mag_ne0 x h0 h4 h5
  have q0 : (classOf x == 0) = false := beq_eq_false_iff_ne.2 h0
  have q1 : (classOf x == 1) = false := beq_eq_false_iff_ne.2 h1
  have q8 : (classOf x == 8) = false := beq_eq_false_iff_ne.2 h8
  have q4 : (classOf x == 4) = false := beq_eq_false_iff_ne.2 h4
  have q5 : (classOf x == 5) = false := beq_eq_false_iff_ne.2 h5
  clear h0 h1 h8 h4 h5
  have hE := expW_lt (canon x)
  have hE0 := n64_nn (expW (canon x))
  have hw : wrap64 (n64 (canon x >>> 52 &&& 2047)) = n64 (canon x >>> 52 &&& 2047) := w64_exp _
  by_cases he : expW (canon x) = 0
  · have HM : Hid (n64 (canon x &&& 4503599627370495) = ((mantW (magW x)).toNat : Int)) := by
      unfold mantW; rw [magE, if_pos he, magF]; exact rfl
    have HX : Hid (exp0 (magW x) = -1074) := by unfold exp0; rw [magE, if_pos he]; exact rfl
    have p4 : decide ((0 : Int) < n64 (canon x >>> 52 &&& 2047)) = false := by rw [z_pos]; simp [expW] at he; rw [he]; decide
    clear he hE hE0
    go_enter Tryz.func96, Tryz.ntmps96
    go_wp2_with (first | (go_at_call 82; refine (refClass_any _ _).mono ?_; rintro e w ⟨rfl, rfl⟩) | (go_at_call 98; refine (refBits_any _ _).mono ?_; rintro e w ⟨rfl, rfl⟩))
    go_loopw [4, 5] (fun e m wr => ∃ (k mm : Nat), e = .int .i64 (exp0 (magW x) + k) ∧ m = .int .u64 (mm : Int) ∧ k ≤ tzW (magW x) ∧ mm * 2 ^ k = (mantW (magW x)).toNat ∧ wr = w) (fun _ m _ => (intOf m).toNat)
    case atStart => exact ⟨0, (mantW (magW x)).toNat, by rw [HX.out]; rfl, congrArg (Value.int .u64) HM.out, Nat.zero_le _, by simp, rfl⟩
    case round =>
      obtain ⟨k, mm, rfl, rfl, hk, hmm, rfl⟩ := hrel
      have hmm64 := (mantW (magW x)).toNat_lt
      have hmle : mm ≤ (mantW (magW x)).toNat := by rw [← hmm]; exact Nat.le_mul_of_pos_right _ (Nat.two_pow_pos _)
      have hmm0 : mm ≠ 0 := by
        intro h; rw [h, Nat.zero_mul] at hmm; exact u64_ne0 hm hmm.symm
      have hxe := exp0_bd (magW x)
      have htz := tzW_lt _ hm
      by_cases hev : mm % 2 = 0
      · have q : ((mm : Int) % 2 == 0) = true := beq_iff_eq.2 (by omega)
        have hlt := half_even _ hm k mm hk hmm hev
        have H1 : Hid (wrap64 (exp0 (magW x) + k + 1) = exp0 (magW x) + ((k + 1 : Nat) : Int)) := by unfold Hid wrap64; omega
        have H2 : Hid (IntKind.u64.wrap ((mm : Int) / 2) = ((mm / 2 : Nat) : Int)) := by unfold Hid; rw [IntKind.wrap_u64]; omega
        have H3 : Hid (mm / 2 * 2 ^ (k + 1) = (mantW (magW x)).toNat) := by
          have h2 : mm = mm / 2 * 2 := by omega
          show mm / 2 * 2 ^ (k + 1) = _
          rw [← hmm, Nat.pow_succ]
          conv => rhs; rw [h2]
          rw [Nat.mul_assoc, Nat.mul_comm 2]
        have Hmm := Lib.hid hmm
        clear hmm hev
        go_wp2
        go_roundw
        case rel => exact ⟨k + 1, mm / 2, congrArg (Value.int .i64) (by omega), congrArg (Value.int .u64) (by omega), hlt, H3.out, trivial⟩
        case measure =>
          simp only [intOf]
          omega
      · have q : ((mm : Int) % 2 == 0) = false := beq_eq_false_iff_ne.2 (by omega)
        obtain ⟨hkt, hmp⟩ := half_odd _ hm k mm hk hmm hev
        have hpe : Hid (exp0 (magW x) + (k : Int) = partE (magW x)) := by unfold Hid partE; rw [hkt]
        have hm53 : mm < 9007199254740992 := by
          have := mantW_nat (magW x)
          split at this <;> omega
        have hwm : wrap64 (mm : Int) = mm := by unfold wrap64; omega
        obtain ⟨D, HD⟩ : ∃ D, Hid (D = Lib.decDigits mm) := ⟨_, rfl⟩
        obtain ⟨E, HE⟩ : ∃ E, Hid (E = Lib.itoa (exp0 (magW x) + k)) := ⟨_, rfl⟩
        have hDl : D.length ≤ 20 := by rw [HD.out]; exact nDigits_le' _ (by omega)
        have hEl : E.length ≤ 21 := by rw [HE.out]; exact Lib.itoa_length_le _ (by omega) (by omega)
        obtain ⟨t1, H1⟩ : ∃ t, Hid (t = D ++ [112]) := ⟨D ++ [112], Eq.refl _⟩
        obtain ⟨t2, H2⟩ : ∃ t, Hid (t = t1 ++ E) := ⟨_, rfl⟩
        obtain ⟨t3, H3⟩ : ∃ t, Hid (t = [45] ++ t2) := ⟨[45] ++ t2, Eq.refl _⟩
        have hl1 : t1.length ≤ 21 := by rw [H1.out]; simp; omega
        have hl2 : t2.length ≤ 42 := by rw [H2.out]; simp; omega
        have j1 : ∀ W, (Op.stringOp .add (bs D) ⟨#[112]⟩).run Tryz.prog W = .ok (.string (bs t1)) W := fun W => by rw [H1.out]; exact run_add_bs D [112] (by simp; omega) W
        have j2 : ∀ W, (Op.stringOp .add (bs t1) (bs E)).run Tryz.prog W = .ok (.string (bs t2)) W := fun W => by rw [H2.out]; exact run_add_bs _ _ (by omega) W
        have j3 : ∀ W, (Op.stringOp .add ⟨#[45]⟩ (bs t2)).run Tryz.prog W = .ok (.string (bs t3)) W := fun W => by rw [H3.out]; exact run_add_bs [45] t2 (by simp; omega) W
        have HDc : Hid (∀ W, Calls Tryz.prog 121 #[.int .i64 (mm : Int)] W fun e w' => e = .returned (.string (bs D)) ∧ Below W.heap.size W w') := fun W => by
          have := dec_any (mm : Int) (by omega) (by omega) W
          rw [Lib.itoa_nonneg, ← HD.out] at this; exact this
        have HEc : Hid (∀ W, Calls Tryz.prog 121 #[.int .i64 (exp0 (magW x) + (k : Int))] W fun e w' => e = .returned (.string (bs E)) ∧ Below W.heap.size W w') := fun W => by
          rw [HE.out]; exact dec_any _ (by omega) (by omega) W
        have Hfin : Hid (Lib.decDigits (partM (magW x)).toNat = D ∧ Lib.itoa (partE (magW x)) = E) := ⟨by rw [HD.out, hmp], by rw [HE.out, hpe.out]⟩
        clear hmm hev hmm64 hmle hmm0 hxe htz hkt hmp hm53 hDl hEl hl1 hl2
        generalize exp0 (magW x) + (k : Int) = ee at *
        by_cases hs : canon x &&& topW = 0
        · have hz := zn_f hs
          have HS : Hid (signS x = []) := by unfold Hid signS; rw [if_neg (by simpa using hs)]
          clear hs
          go_wp2_with fail
          go_at_call 121; refine (HDc.out _).mono ?_; rintro e w1 ⟨rfl, hb1⟩
          go_wp2_with fail
          go_at_call 121; refine (HEc.out _).mono ?_; rintro e w2 ⟨rfl, hb2⟩
          go_wp2
          go_ret
          refine ⟨?_, hb1.trans (hb2.mono hb1.size)⟩
          rw [HS.out, Hfin.out.1, Hfin.out.2, List.nil_append, ← H1.out, ← H2.out]; rfl
        · have hz := zn_t hs
          have HS : Hid (signS x = [45]) := by unfold Hid signS; rw [if_pos hs]
          clear hs
          go_wp2_with fail
          go_at_call 121; refine (HDc.out _).mono ?_; rintro e w1 ⟨rfl, hb1⟩
          go_wp2_with fail
          go_at_call 121; refine (HEc.out _).mono ?_; rintro e w2 ⟨rfl, hb2⟩
          go_wp2
          go_ret
          refine ⟨?_, hb1.trans (hb2.mono hb1.size)⟩
          rw [HS.out, Hfin.out.1, Hfin.out.2]
          have e : [45] ++ D ++ [112] ++ E = t3 := by rw [H3.out, H2.out, H1.out]; simp
          rw [e]; rfl
  · have HM : Hid (n64 (canon x &&& 4503599627370495 ||| 4503599627370496) = ((mantW (magW x)).toNat : Int)) := by
      unfold mantW; rw [magE, if_neg he, magF]; exact rfl
    have HX : Hid (exp0 (magW x) = wrap64 (n64 (canon x >>> 52 &&& 2047) - 1075)) := by
      unfold exp0; rw [magE, if_neg he]; unfold expW at hE hE0 ⊢; unfold Hid wrap64; omega
    have p4 : decide ((0 : Int) < n64 (canon x >>> 52 &&& 2047)) = true := by rw [z_pos]; have := upos.2 he; simpa [expW] using this
    clear he hE hE0
    go_enter Tryz.func96, Tryz.ntmps96
    go_wp2_with (first | (go_at_call 82; refine (refClass_any _ _).mono ?_; rintro e w ⟨rfl, rfl⟩) | (go_at_call 98; refine (refBits_any _ _).mono ?_; rintro e w ⟨rfl, rfl⟩))
    go_loopw [4, 5] (fun e m wr => ∃ (k mm : Nat), e = .int .i64 (exp0 (magW x) + k) ∧ m = .int .u64 (mm : Int) ∧ k ≤ tzW (magW x) ∧ mm * 2 ^ k = (mantW (magW x)).toNat ∧ wr = w) (fun _ m _ => (intOf m).toNat)
    case atStart => exact ⟨0, (mantW (magW x)).toNat, by rw [HX.out]; exact congrArg (Value.int .i64) (by simp), congrArg (Value.int .u64) HM.out, Nat.zero_le _, by simp, rfl⟩
    case round =>
      obtain ⟨k, mm, rfl, rfl, hk, hmm, rfl⟩ := hrel
      have hmm64 := (mantW (magW x)).toNat_lt
      have hmle : mm ≤ (mantW (magW x)).toNat := by rw [← hmm]; exact Nat.le_mul_of_pos_right _ (Nat.two_pow_pos _)
      have hmm0 : mm ≠ 0 := by
        intro h; rw [h, Nat.zero_mul] at hmm; exact u64_ne0 hm hmm.symm
      have hxe := exp0_bd (magW x)
      have htz := tzW_lt _ hm
      by_cases hev : mm % 2 = 0
      · have q : ((mm : Int) % 2 == 0) = true := beq_iff_eq.2 (by omega)
        have hlt := half_even _ hm k mm hk hmm hev
        have H1 : Hid (wrap64 (exp0 (magW x) + k + 1) = exp0 (magW x) + ((k + 1 : Nat) : Int)) := by unfold Hid wrap64; omega
        have H2 : Hid (IntKind.u64.wrap ((mm : Int) / 2) = ((mm / 2 : Nat) : Int)) := by unfold Hid; rw [IntKind.wrap_u64]; omega
        have H3 : Hid (mm / 2 * 2 ^ (k + 1) = (mantW (magW x)).toNat) := by
          have h2 : mm = mm / 2 * 2 := by omega
          show mm / 2 * 2 ^ (k + 1) = _
          rw [← hmm, Nat.pow_succ]
          conv => rhs; rw [h2]
          rw [Nat.mul_assoc, Nat.mul_comm 2]
        have Hmm := Lib.hid hmm
        clear hmm hev
        go_wp2
        go_roundw
        case rel => exact ⟨k + 1, mm / 2, congrArg (Value.int .i64) (by omega), congrArg (Value.int .u64) (by omega), hlt, H3.out, trivial⟩
        case measure =>
          simp only [intOf]
          omega
      · have q : ((mm : Int) % 2 == 0) = false := beq_eq_false_iff_ne.2 (by omega)
        obtain ⟨hkt, hmp⟩ := half_odd _ hm k mm hk hmm hev
        have hpe : Hid (exp0 (magW x) + (k : Int) = partE (magW x)) := by unfold Hid partE; rw [hkt]
        have hm53 : mm < 9007199254740992 := by
          have := mantW_nat (magW x)
          split at this <;> omega
        have hwm : wrap64 (mm : Int) = mm := by unfold wrap64; omega
        obtain ⟨D, HD⟩ : ∃ D, Hid (D = Lib.decDigits mm) := ⟨_, rfl⟩
        obtain ⟨E, HE⟩ : ∃ E, Hid (E = Lib.itoa (exp0 (magW x) + k)) := ⟨_, rfl⟩
        have hDl : D.length ≤ 20 := by rw [HD.out]; exact nDigits_le' _ (by omega)
        have hEl : E.length ≤ 21 := by rw [HE.out]; exact Lib.itoa_length_le _ (by omega) (by omega)
        obtain ⟨t1, H1⟩ : ∃ t, Hid (t = D ++ [112]) := ⟨D ++ [112], Eq.refl _⟩
        obtain ⟨t2, H2⟩ : ∃ t, Hid (t = t1 ++ E) := ⟨_, rfl⟩
        obtain ⟨t3, H3⟩ : ∃ t, Hid (t = [45] ++ t2) := ⟨[45] ++ t2, Eq.refl _⟩
        have hl1 : t1.length ≤ 21 := by rw [H1.out]; simp; omega
        have hl2 : t2.length ≤ 42 := by rw [H2.out]; simp; omega
        have j1 : ∀ W, (Op.stringOp .add (bs D) ⟨#[112]⟩).run Tryz.prog W = .ok (.string (bs t1)) W := fun W => by rw [H1.out]; exact run_add_bs D [112] (by simp; omega) W
        have j2 : ∀ W, (Op.stringOp .add (bs t1) (bs E)).run Tryz.prog W = .ok (.string (bs t2)) W := fun W => by rw [H2.out]; exact run_add_bs _ _ (by omega) W
        have j3 : ∀ W, (Op.stringOp .add ⟨#[45]⟩ (bs t2)).run Tryz.prog W = .ok (.string (bs t3)) W := fun W => by rw [H3.out]; exact run_add_bs [45] t2 (by simp; omega) W
        have HDc : Hid (∀ W, Calls Tryz.prog 121 #[.int .i64 (mm : Int)] W fun e w' => e = .returned (.string (bs D)) ∧ Below W.heap.size W w') := fun W => by
          have := dec_any (mm : Int) (by omega) (by omega) W
          rw [Lib.itoa_nonneg, ← HD.out] at this; exact this
        have HEc : Hid (∀ W, Calls Tryz.prog 121 #[.int .i64 (exp0 (magW x) + (k : Int))] W fun e w' => e = .returned (.string (bs E)) ∧ Below W.heap.size W w') := fun W => by
          rw [HE.out]; exact dec_any _ (by omega) (by omega) W
        have Hfin : Hid (Lib.decDigits (partM (magW x)).toNat = D ∧ Lib.itoa (partE (magW x)) = E) := ⟨by rw [HD.out, hmp], by rw [HE.out, hpe.out]⟩
        clear hmm hev hmm64 hmle hmm0 hxe htz hkt hmp hm53 hDl hEl hl1 hl2
        generalize exp0 (magW x) + (k : Int) = ee at *
        by_cases hs : canon x &&& topW = 0
        · have hz := zn_f hs
          have HS : Hid (signS x = []) := by unfold Hid signS; rw [if_neg (by simpa using hs)]
          clear hs
          go_wp2_with fail
          go_at_call 121; refine (HDc.out _).mono ?_; rintro e w1 ⟨rfl, hb1⟩
          go_wp2_with fail
          go_at_call 121; refine (HEc.out _).mono ?_; rintro e w2 ⟨rfl, hb2⟩
          go_wp2
          go_ret
          refine ⟨?_, hb1.trans (hb2.mono hb1.size)⟩
          rw [HS.out, Hfin.out.1, Hfin.out.2, List.nil_append, ← H1.out, ← H2.out]; rfl
        · have hz := zn_t hs
          have HS : Hid (signS x = [45]) := by unfold Hid signS; rw [if_pos hs]
          clear hs
          go_wp2_with fail
          go_at_call 121; refine (HDc.out _).mono ?_; rintro e w1 ⟨rfl, hb1⟩
          go_wp2_with fail
          go_at_call 121; refine (HEc.out _).mono ?_; rintro e w2 ⟨rfl, hb2⟩
          go_wp2
          go_ret
          refine ⟨?_, hb1.trans (hb2.mono hb1.size)⟩
          rw [HS.out, Hfin.out.1, Hfin.out.2]
          have e : [45] ++ D ++ [112] ++ E = t3 := by rw [H3.out, H2.out, H1.out]; simp
          rw [e]; rfl
end Go.Proofs.YtalpbphfmelhhaaGreatDoor

/-! ### Print, num's and the reference's, of any float: one text. -/
namespace Go.Proofs.YtalpbphfmelhhaaGreatDoor
set_option maxRecDepth 100000
open Go.RowKit Go.Shelf Go.Sort

theorem class_cases (x : UInt64) : (classOf x = 0) ∨ (canon x &&& topW = 0 ∧ 5 ≤ classOf x ∧ classOf x ≤ 8) ∨ (canon x &&& topW ≠ 0 ∧ 1 ≤ classOf x ∧ classOf x ≤ 4) := by
  unfold classOf classC
  by_cases h : expW (canon x) = 2047 ∧ fracW (canon x) ≠ 0
  · rw [if_pos h]; exact Or.inl rfl
  · rw [if_neg h]
    right
    simp only []
    by_cases hs : canon x &&& topW = 0
    · left
      refine ⟨hs, ?_⟩
      rw [if_neg (by simpa using hs)]
      split
      · omega
      · split
        · omega
        · split <;> omega
    · right
      refine ⟨hs, ?_⟩
      rw [if_pos hs]
      split
      · omega
      · split
        · omega
        · split <;> omega
theorem sign_pos {x : UInt64} (h : 5 ≤ classOf x) : signS x = [] := by
  unfold signS
  rcases class_cases x with h' | ⟨h', _, _⟩ | ⟨h', _, _⟩
  · omega
  · rw [if_neg (by simpa using h')]
  · omega
theorem sign_neg {x : UInt64} (h0 : 1 ≤ classOf x) (h : classOf x ≤ 4) : signS x = [45] := by
  unfold signS
  rcases class_cases x with h' | ⟨h', _, _⟩ | ⟨h', _, _⟩
  · omega
  · omega
  · rw [if_pos h']

theorem print_any (x : UInt64) (w : World) (hT : Laid w) :
    Calls Tryz.prog 94 #[.float .f64 (fb x)] w fun e w' => e = .returned (.string (bs (printOf x))) ∧ Below w.heap.size w w' := by
  refine (print_core x w hT (classOf x) rfl (n64 (canon x &&& topW) != 0) (signS x) rfl ?_ _ _ _ _ _ rfl rfl rfl rfl rfl ?_).mono ?_
  · show signS x = _
    unfold signS
    by_cases h : canon x &&& topW = 0
    · rw [if_neg (by simpa using h), zn_f h]; rfl
    · rw [if_pos h, zn_t h]; rfl
  · intro h0 h4 h5
    exact mag_ne0 x (by simpa using h0) (by simpa using h4) (by simpa using h5)
  · rintro e w' ⟨rfl, hb⟩
    refine ⟨?_, hb⟩
    unfold printOf
    by_cases h0 : classOf x = 0
    · simp [h0]
    · by_cases h1 : classOf x = 1 ∨ classOf x = 8
      · simp [h0, h1]
      · by_cases h4 : classOf x = 4 ∨ classOf x = 5
        · have h1' := not_or.1 h1
          simp [h0, h1', h4]
        · have h1' := not_or.1 h1
          have h4' := not_or.1 h4
          simp [h0, h1', h4']

set_option maxHeartbeats 1000000 in
theorem refPrint_any (x : UInt64) (w : World) :
    Calls Tryz.prog 96 #[.float .f64 (fb x)] w fun e w' => e = .returned (.string (bs (printOf x))) ∧ Below w.heap.size w w' := by
  by_cases h0 : classOf x = 0
  · have HP : Hid (printOf x = [110, 97, 110]) := by unfold Hid printOf; rw [if_pos h0]
    have q0 : (classOf x == 0) = true := beq_iff_eq.2 h0
    clear h0
    go_enter Tryz.func96, Tryz.ntmps96
    go_wp2_with (go_at_call 82; refine (refClass_any _ _).mono ?_; rintro e w ⟨rfl, rfl⟩)
    go_ret
    exact ⟨by rw [HP.out]; rfl, Below.refl _ _⟩
  have q0 : (classOf x == 0) = false := beq_eq_false_iff_ne.2 h0
  by_cases h1 : classOf x = 1
  · have HP : Hid (printOf x = [45, 105, 110, 102]) := by unfold Hid printOf; rw [if_neg h0, if_pos (Or.inl h1), sign_neg (by omega) (by omega)]; rfl
    have q1 : (classOf x == 1) = true := beq_iff_eq.2 h1
    clear h0 h1
    go_enter Tryz.func96, Tryz.ntmps96
    go_wp2_with (go_at_call 82; refine (refClass_any _ _).mono ?_; rintro e w ⟨rfl, rfl⟩)
    go_ret
    exact ⟨by rw [HP.out]; rfl, Below.refl _ _⟩
  have q1 : (classOf x == 1) = false := beq_eq_false_iff_ne.2 h1
  by_cases h8 : classOf x = 8
  · have HP : Hid (printOf x = [105, 110, 102]) := by unfold Hid printOf; rw [if_neg h0, if_pos (Or.inr h8), sign_pos (by omega)]; rfl
    have q8 : (classOf x == 8) = true := beq_iff_eq.2 h8
    clear h0 h1 h8
    go_enter Tryz.func96, Tryz.ntmps96
    go_wp2_with (go_at_call 82; refine (refClass_any _ _).mono ?_; rintro e w ⟨rfl, rfl⟩)
    go_ret
    exact ⟨by rw [HP.out]; rfl, Below.refl _ _⟩
  have q8 : (classOf x == 8) = false := beq_eq_false_iff_ne.2 h8
  by_cases h4 : classOf x = 4
  · have HP : Hid (printOf x = [45, 48]) := by unfold Hid printOf; rw [if_neg h0, if_neg (by omega), if_pos (Or.inl h4), sign_neg (by omega) (by omega)]; rfl
    have q4 : (classOf x == 4) = true := beq_iff_eq.2 h4
    clear h0 h1 h8 h4
    go_enter Tryz.func96, Tryz.ntmps96
    go_wp2_with (go_at_call 82; refine (refClass_any _ _).mono ?_; rintro e w ⟨rfl, rfl⟩)
    go_ret
    exact ⟨by rw [HP.out]; rfl, Below.refl _ _⟩
  have q4 : (classOf x == 4) = false := beq_eq_false_iff_ne.2 h4
  by_cases h5 : classOf x = 5
  · have HP : Hid (printOf x = [48]) := by unfold Hid printOf; rw [if_neg h0, if_neg (by omega), if_pos (Or.inr h5), sign_pos (by omega)]; rfl
    have q5 : (classOf x == 5) = true := beq_iff_eq.2 h5
    clear h0 h1 h8 h4 h5
    go_enter Tryz.func96, Tryz.ntmps96
    go_wp2_with (go_at_call 82; refine (refClass_any _ _).mono ?_; rintro e w ⟨rfl, rfl⟩)
    go_ret
    exact ⟨by rw [HP.out]; rfl, Below.refl _ _⟩
  refine (refPrint_num x w h0 h1 h8 h4 h5).mono ?_
  rintro e w' ⟨rfl, hb⟩
  refine ⟨?_, hb⟩
  unfold printOf
  rw [if_neg h0, if_neg (by omega), if_neg (by omega)]
end Go.Proofs.YtalpbphfmelhhaaGreatDoor
