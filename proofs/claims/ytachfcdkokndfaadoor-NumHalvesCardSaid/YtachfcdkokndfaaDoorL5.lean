/-
  The walks of the laws NumOrder, NumNext.
-/
import Derived.Test.YtachfcdkokndfaaDoorL4
namespace Go.Proofs.YtachfcdkokndfaaDoor
open Go.RowKit Go.Shelf Go.Sort
attribute [local go_sem] bs_size bs_get bs_toList neg_run

/-! ### The order in plain words -/
theorem cmp_cases (x y : UInt64) : (cmpOf x y = -1 ∧ (rankOf x).toNat < (rankOf y).toNat) ∨ (cmpOf x y = 0 ∧ (rankOf x).toNat = (rankOf y).toNat) ∨ (cmpOf x y = 1 ∧ (rankOf y).toNat < (rankOf x).toNat) := by
  unfold cmpOf
  simp only [UInt64.lt_iff_toNat_lt]
  by_cases h1 : (rankOf x).toNat < (rankOf y).toNat
  · rw [if_pos h1]; exact .inl ⟨rfl, h1⟩
  · rw [if_neg h1]
    by_cases h2 : (rankOf y).toNat < (rankOf x).toNat
    · rw [if_pos h2]; exact .inr (.inr ⟨rfl, h2⟩)
    · rw [if_neg h2]; exact .inr (.inl ⟨rfl, by omega⟩)
theorem cmp_turn (x y : UInt64) : cmpOf y x = -cmpOf x y := by
  rcases cmp_cases x y with ⟨h1, h2⟩ | ⟨h1, h2⟩ | ⟨h1, h2⟩ <;> rcases cmp_cases y x with ⟨h3, h4⟩ | ⟨h3, h4⟩ | ⟨h3, h4⟩ <;> omega
theorem cmp_self (x : UInt64) : cmpOf x x = 0 := by have := cmp_turn x x; omega
theorem cmp_canon (x : UInt64) : cmpOf (canon x) x = 0 := by
  have : cmpOf (canon x) x = cmpOf x x := by unfold cmpOf; rw [rank_canon]
  rw [this, cmp_self]
theorem cmp_zero (x y : UInt64) : cmpOf x y = 0 ↔ canon x = canon y := by
  rw [← rank_inj, u_eq_lit]
  rcases cmp_cases x y with ⟨h1, h2⟩ | ⟨h1, h2⟩ | ⟨h1, h2⟩ <;> omega
theorem cmp_le (x y : UInt64) : cmpOf x y ≤ 0 ↔ (rankOf x).toNat ≤ (rankOf y).toNat := by
  rcases cmp_cases x y with ⟨h1, h2⟩ | ⟨h1, h2⟩ | ⟨h1, h2⟩ <;> omega
theorem cmp_lt (x y : UInt64) : cmpOf x y < 0 ↔ (rankOf x).toNat < (rankOf y).toNat := by
  rcases cmp_cases x y with ⟨h1, h2⟩ | ⟨h1, h2⟩ | ⟨h1, h2⟩ <;> omega
theorem class_mono (x y : UInt64) (h : (rankOf x).toNat ≤ (rankOf y).toNat) : classOf y = 0 ∨ (classOf x ≠ 0 ∧ classOf x ≤ classOf y) := by
  have hx := (canon x).toNat_lt
  have hy := (canon y).toNat_lt
  have cx := canon_ok x
  have cy := canon_ok y
  rw [rank_nat, rank_nat] at h
  rw [class_nat, class_nat]
  generalize (canon x).toNat = n at *
  generalize (canon y).toNat = m at *
  unfold rankN at h
  rcases cy with cy | cy
  · right
    have cx' : n % 9223372036854775808 ≤ 9218868437227405312 := by
      rcases cx with cx | cx
      · exact cx
      · subst cx
        rw [if_neg (by decide)] at h
        split at h <;> omega
    unfold clsN
    rw [if_neg (show ¬ 9218868437227405312 < n % 9223372036854775808 by omega), if_neg (show ¬ 9218868437227405312 < m % 9223372036854775808 by omega)]
    simp only []
    by_cases n1 : n % 9223372036854775808 = 9218868437227405312 <;> by_cases n2 : 4503599627370496 ≤ n % 9223372036854775808 <;> by_cases n3 : 0 < n % 9223372036854775808 <;> by_cases n4 : 9223372036854775808 ≤ n <;>
    by_cases m1 : m % 9223372036854775808 = 9218868437227405312 <;> by_cases m2 : 4503599627370496 ≤ m % 9223372036854775808 <;> by_cases m3 : 0 < m % 9223372036854775808 <;> by_cases m4 : 9223372036854775808 ≤ m <;>
    first
      | (exfalso; omega)
      | (simp only [n1, n2, n3, n4, m1, m2, m3, m4, if_true, if_false] at h ⊢; first | decide | (exfalso; omega))
  · left; rw [cy]; decide
theorem nn_eq (x y : UInt64) : (n64 x == n64 y) = decide (x = y) := by
  rw [n64_eq, Bool.eq_iff_iff]; simp
theorem nn_lt (x y : UInt64) : decide (n64 x < n64 y) = decide (x.toNat < y.toNat) := by
  rw [n64_ltB, Bool.eq_iff_iff]; simp [UInt64.lt_iff_toNat_lt]

set_option maxHeartbeats 1000000 in
theorem numOrder_lt (x y z : UInt64) (w : World) (hT : Laid w) (bc ac cx cy : Int) (X Y R S : UInt64) (d1 d2 : Bool) (q1 : decide (bc ≤ 0) = d1) (q2 : decide (ac ≤ 0) = d2) (hthru : d1 = true → d2 = true) 
    (hone : (n64 X == n64 Y) = false) (hr1 : decide (n64 R < n64 S) = true) (hr2 : decide (n64 S < n64 R) = false) (hk : cy = 0 ∨ (cx ≠ 0 ∧ cx ≤ cy))
    (Hxy : Hid (∀ W, Calls Tryd.prog 33 #[.float .f64 (fb x), .float .f64 (fb y)] W fun e w' => e = .returned (.int .i64 (-1)) ∧ w' = W))
    (Hyz : Hid (∀ W, Calls Tryd.prog 33 #[.float .f64 (fb y), .float .f64 (fb z)] W fun e w' => e = .returned (.int .i64 bc) ∧ w' = W))
    (Hxz : Hid (∀ W, Calls Tryd.prog 33 #[.float .f64 (fb x), .float .f64 (fb z)] W fun e w' => e = .returned (.int .i64 ac) ∧ w' = W))
    (Hyx : Hid (∀ W, Calls Tryd.prog 33 #[.float .f64 (fb y), .float .f64 (fb x)] W fun e w' => e = .returned (.int .i64 (1)) ∧ w' = W))
    (Hxx : Hid (∀ W, Calls Tryd.prog 33 #[.float .f64 (fb x), .float .f64 (fb x)] W fun e w' => e = .returned (.int .i64 0) ∧ w' = W))
    (Hcx : Hid (∀ W, Calls Tryd.prog 33 #[.float .f64 (fb X), .float .f64 (fb x)] W fun e w' => e = .returned (.int .i64 0) ∧ w' = W))
    (HX : Hid (∀ W, Calls Tryd.prog 26 #[.float .f64 (fb x)] W fun e w' => e = .returned (.int .u64 (n64 X)) ∧ w' = W))
    (HY : Hid (∀ W, Calls Tryd.prog 26 #[.float .f64 (fb y)] W fun e w' => e = .returned (.int .u64 (n64 Y)) ∧ w' = W))
    (HR : Hid (∀ W, Calls Tryd.prog 29 #[.float .f64 (fb x)] W fun e w' => e = .returned (.int .u64 (n64 R)) ∧ w' = W))
    (HS : Hid (∀ W, Calls Tryd.prog 29 #[.float .f64 (fb y)] W fun e w' => e = .returned (.int .u64 (n64 S)) ∧ w' = W))
    (HKx : Hid (∀ W, Calls Tryd.prog 21 #[.float .f64 (fb x)] W fun e w' => e = .returned (.int .i64 cx) ∧ w' = W))
    (HKy : Hid (∀ W, Calls Tryd.prog 21 #[.float .f64 (fb y)] W fun e w' => e = .returned (.int .i64 cy) ∧ w' = W))
    (HCn : Hid (∀ W, Calls Tryd.prog 24 #[.float .f64 (fb x)] W fun e w' => e = .returned (.float .f64 (fb X)) ∧ w' = W)) :
    Calls Tryd.prog 8 #[.float .f64 (fb x), .float .f64 (fb y), .float .f64 (fb z)] w fun e w' => e = .returned (.bool true) ∧ Below w.heap.size w w' := by
  cases d1
  case true =>
    have hd := hthru rfl
    subst hd
    clear hthru
    rcases hk with hk | ⟨hk1, hk2⟩
    · subst hk
      go_enter Tryd.func8, Tryd.ntmps8
      go_wp2_with fail
      go_at_call 15
      refine (first_any _ hT).mono ?_
      rintro e w1 ⟨rfl, hb1⟩
      go_wp2_with (first | (go_at_call 33; ((with_reducible refine (Hxy.out _).mono ?_); rintro e w' ⟨rfl, rfl⟩)) | (go_at_call 33; ((with_reducible refine (Hyz.out _).mono ?_); rintro e w' ⟨rfl, rfl⟩)) | (go_at_call 33; ((with_reducible refine (Hxz.out _).mono ?_); rintro e w' ⟨rfl, rfl⟩)) | (go_at_call 33; ((with_reducible refine (Hyx.out _).mono ?_); rintro e w' ⟨rfl, rfl⟩)) | (go_at_call 33; ((with_reducible refine (Hxx.out _).mono ?_); rintro e w' ⟨rfl, rfl⟩)) | (go_at_call 33; ((with_reducible refine (Hcx.out _).mono ?_); rintro e w' ⟨rfl, rfl⟩)) | (go_at_call 26; ((with_reducible refine (HX.out _).mono ?_); rintro e w' ⟨rfl, rfl⟩)) | (go_at_call 26; ((with_reducible refine (HY.out _).mono ?_); rintro e w' ⟨rfl, rfl⟩)) | (go_at_call 29; ((with_reducible refine (HR.out _).mono ?_); rintro e w' ⟨rfl, rfl⟩)) | (go_at_call 29; ((with_reducible refine (HS.out _).mono ?_); rintro e w' ⟨rfl, rfl⟩)) | (go_at_call 21; ((with_reducible refine (HKx.out _).mono ?_); rintro e w' ⟨rfl, rfl⟩)) | (go_at_call 21; ((with_reducible refine (HKy.out _).mono ?_); rintro e w' ⟨rfl, rfl⟩)) | (go_at_call 24; ((with_reducible refine (HCn.out _).mono ?_); rintro e w' ⟨rfl, rfl⟩)))
      go_at_call 15
      refine (first_any _ (hT.below hb1)).mono ?_
      rintro e w2 ⟨rfl, hb2⟩
      have hb3 := hb1.trans (hb2.mono hb1.size)
      clear hb1 hb2
      go_wp2_with (first | (go_at_call 33; ((with_reducible refine (Hxy.out _).mono ?_); rintro e w' ⟨rfl, rfl⟩)) | (go_at_call 33; ((with_reducible refine (Hyz.out _).mono ?_); rintro e w' ⟨rfl, rfl⟩)) | (go_at_call 33; ((with_reducible refine (Hxz.out _).mono ?_); rintro e w' ⟨rfl, rfl⟩)) | (go_at_call 33; ((with_reducible refine (Hyx.out _).mono ?_); rintro e w' ⟨rfl, rfl⟩)) | (go_at_call 33; ((with_reducible refine (Hxx.out _).mono ?_); rintro e w' ⟨rfl, rfl⟩)) | (go_at_call 33; ((with_reducible refine (Hcx.out _).mono ?_); rintro e w' ⟨rfl, rfl⟩)) | (go_at_call 26; ((with_reducible refine (HX.out _).mono ?_); rintro e w' ⟨rfl, rfl⟩)) | (go_at_call 26; ((with_reducible refine (HY.out _).mono ?_); rintro e w' ⟨rfl, rfl⟩)) | (go_at_call 29; ((with_reducible refine (HR.out _).mono ?_); rintro e w' ⟨rfl, rfl⟩)) | (go_at_call 29; ((with_reducible refine (HS.out _).mono ?_); rintro e w' ⟨rfl, rfl⟩)) | (go_at_call 21; ((with_reducible refine (HKx.out _).mono ?_); rintro e w' ⟨rfl, rfl⟩)) | (go_at_call 21; ((with_reducible refine (HKy.out _).mono ?_); rintro e w' ⟨rfl, rfl⟩)) | (go_at_call 24; ((with_reducible refine (HCn.out _).mono ?_); rintro e w' ⟨rfl, rfl⟩)))
      go_ret
      exact ⟨rfl, hb3⟩
    · have hk0 : (cx != 0) = true := bne_iff_ne.2 hk1
      have hk3 : decide (cx ≤ cy) = true := decide_eq_true hk2
      by_cases hy : cy = 0
      · subst hy
        clear hk1 hk2
        go_enter Tryd.func8, Tryd.ntmps8
        go_wp2_with fail
        go_at_call 15
        refine (first_any _ hT).mono ?_
        rintro e w1 ⟨rfl, hb1⟩
        go_wp2_with (first | (go_at_call 33; ((with_reducible refine (Hxy.out _).mono ?_); rintro e w' ⟨rfl, rfl⟩)) | (go_at_call 33; ((with_reducible refine (Hyz.out _).mono ?_); rintro e w' ⟨rfl, rfl⟩)) | (go_at_call 33; ((with_reducible refine (Hxz.out _).mono ?_); rintro e w' ⟨rfl, rfl⟩)) | (go_at_call 33; ((with_reducible refine (Hyx.out _).mono ?_); rintro e w' ⟨rfl, rfl⟩)) | (go_at_call 33; ((with_reducible refine (Hxx.out _).mono ?_); rintro e w' ⟨rfl, rfl⟩)) | (go_at_call 33; ((with_reducible refine (Hcx.out _).mono ?_); rintro e w' ⟨rfl, rfl⟩)) | (go_at_call 26; ((with_reducible refine (HX.out _).mono ?_); rintro e w' ⟨rfl, rfl⟩)) | (go_at_call 26; ((with_reducible refine (HY.out _).mono ?_); rintro e w' ⟨rfl, rfl⟩)) | (go_at_call 29; ((with_reducible refine (HR.out _).mono ?_); rintro e w' ⟨rfl, rfl⟩)) | (go_at_call 29; ((with_reducible refine (HS.out _).mono ?_); rintro e w' ⟨rfl, rfl⟩)) | (go_at_call 21; ((with_reducible refine (HKx.out _).mono ?_); rintro e w' ⟨rfl, rfl⟩)) | (go_at_call 21; ((with_reducible refine (HKy.out _).mono ?_); rintro e w' ⟨rfl, rfl⟩)) | (go_at_call 24; ((with_reducible refine (HCn.out _).mono ?_); rintro e w' ⟨rfl, rfl⟩)))
        go_at_call 15
        refine (first_any _ (hT.below hb1)).mono ?_
        rintro e w2 ⟨rfl, hb2⟩
        have hb3 := hb1.trans (hb2.mono hb1.size)
        clear hb1 hb2
        go_wp2_with (first | (go_at_call 33; ((with_reducible refine (Hxy.out _).mono ?_); rintro e w' ⟨rfl, rfl⟩)) | (go_at_call 33; ((with_reducible refine (Hyz.out _).mono ?_); rintro e w' ⟨rfl, rfl⟩)) | (go_at_call 33; ((with_reducible refine (Hxz.out _).mono ?_); rintro e w' ⟨rfl, rfl⟩)) | (go_at_call 33; ((with_reducible refine (Hyx.out _).mono ?_); rintro e w' ⟨rfl, rfl⟩)) | (go_at_call 33; ((with_reducible refine (Hxx.out _).mono ?_); rintro e w' ⟨rfl, rfl⟩)) | (go_at_call 33; ((with_reducible refine (Hcx.out _).mono ?_); rintro e w' ⟨rfl, rfl⟩)) | (go_at_call 26; ((with_reducible refine (HX.out _).mono ?_); rintro e w' ⟨rfl, rfl⟩)) | (go_at_call 26; ((with_reducible refine (HY.out _).mono ?_); rintro e w' ⟨rfl, rfl⟩)) | (go_at_call 29; ((with_reducible refine (HR.out _).mono ?_); rintro e w' ⟨rfl, rfl⟩)) | (go_at_call 29; ((with_reducible refine (HS.out _).mono ?_); rintro e w' ⟨rfl, rfl⟩)) | (go_at_call 21; ((with_reducible refine (HKx.out _).mono ?_); rintro e w' ⟨rfl, rfl⟩)) | (go_at_call 21; ((with_reducible refine (HKy.out _).mono ?_); rintro e w' ⟨rfl, rfl⟩)) | (go_at_call 24; ((with_reducible refine (HCn.out _).mono ?_); rintro e w' ⟨rfl, rfl⟩)))
        go_ret
        exact ⟨rfl, hb3⟩
      · have hy : (cy == 0) = false := beq_eq_false_iff_ne.2 hy
        clear hk1 hk2
        go_enter Tryd.func8, Tryd.ntmps8
        go_wp2_with fail
        go_at_call 15
        refine (first_any _ hT).mono ?_
        rintro e w1 ⟨rfl, hb1⟩
        go_wp2_with (first | (go_at_call 33; ((with_reducible refine (Hxy.out _).mono ?_); rintro e w' ⟨rfl, rfl⟩)) | (go_at_call 33; ((with_reducible refine (Hyz.out _).mono ?_); rintro e w' ⟨rfl, rfl⟩)) | (go_at_call 33; ((with_reducible refine (Hxz.out _).mono ?_); rintro e w' ⟨rfl, rfl⟩)) | (go_at_call 33; ((with_reducible refine (Hyx.out _).mono ?_); rintro e w' ⟨rfl, rfl⟩)) | (go_at_call 33; ((with_reducible refine (Hxx.out _).mono ?_); rintro e w' ⟨rfl, rfl⟩)) | (go_at_call 33; ((with_reducible refine (Hcx.out _).mono ?_); rintro e w' ⟨rfl, rfl⟩)) | (go_at_call 26; ((with_reducible refine (HX.out _).mono ?_); rintro e w' ⟨rfl, rfl⟩)) | (go_at_call 26; ((with_reducible refine (HY.out _).mono ?_); rintro e w' ⟨rfl, rfl⟩)) | (go_at_call 29; ((with_reducible refine (HR.out _).mono ?_); rintro e w' ⟨rfl, rfl⟩)) | (go_at_call 29; ((with_reducible refine (HS.out _).mono ?_); rintro e w' ⟨rfl, rfl⟩)) | (go_at_call 21; ((with_reducible refine (HKx.out _).mono ?_); rintro e w' ⟨rfl, rfl⟩)) | (go_at_call 21; ((with_reducible refine (HKy.out _).mono ?_); rintro e w' ⟨rfl, rfl⟩)) | (go_at_call 24; ((with_reducible refine (HCn.out _).mono ?_); rintro e w' ⟨rfl, rfl⟩)))
        go_at_call 15
        refine (first_any _ (hT.below hb1)).mono ?_
        rintro e w2 ⟨rfl, hb2⟩
        have hb3 := hb1.trans (hb2.mono hb1.size)
        clear hb1 hb2
        go_wp2_with (first | (go_at_call 33; ((with_reducible refine (Hxy.out _).mono ?_); rintro e w' ⟨rfl, rfl⟩)) | (go_at_call 33; ((with_reducible refine (Hyz.out _).mono ?_); rintro e w' ⟨rfl, rfl⟩)) | (go_at_call 33; ((with_reducible refine (Hxz.out _).mono ?_); rintro e w' ⟨rfl, rfl⟩)) | (go_at_call 33; ((with_reducible refine (Hyx.out _).mono ?_); rintro e w' ⟨rfl, rfl⟩)) | (go_at_call 33; ((with_reducible refine (Hxx.out _).mono ?_); rintro e w' ⟨rfl, rfl⟩)) | (go_at_call 33; ((with_reducible refine (Hcx.out _).mono ?_); rintro e w' ⟨rfl, rfl⟩)) | (go_at_call 26; ((with_reducible refine (HX.out _).mono ?_); rintro e w' ⟨rfl, rfl⟩)) | (go_at_call 26; ((with_reducible refine (HY.out _).mono ?_); rintro e w' ⟨rfl, rfl⟩)) | (go_at_call 29; ((with_reducible refine (HR.out _).mono ?_); rintro e w' ⟨rfl, rfl⟩)) | (go_at_call 29; ((with_reducible refine (HS.out _).mono ?_); rintro e w' ⟨rfl, rfl⟩)) | (go_at_call 21; ((with_reducible refine (HKx.out _).mono ?_); rintro e w' ⟨rfl, rfl⟩)) | (go_at_call 21; ((with_reducible refine (HKy.out _).mono ?_); rintro e w' ⟨rfl, rfl⟩)) | (go_at_call 24; ((with_reducible refine (HCn.out _).mono ?_); rintro e w' ⟨rfl, rfl⟩)))
        go_ret
        exact ⟨rfl, hb3⟩
  case false =>
    clear hthru q2
    rcases hk with hk | ⟨hk1, hk2⟩
    · subst hk
      go_enter Tryd.func8, Tryd.ntmps8
      go_wp2_with fail
      go_at_call 15
      refine (first_any _ hT).mono ?_
      rintro e w1 ⟨rfl, hb1⟩
      go_wp2_with (first | (go_at_call 33; ((with_reducible refine (Hxy.out _).mono ?_); rintro e w' ⟨rfl, rfl⟩)) | (go_at_call 33; ((with_reducible refine (Hyz.out _).mono ?_); rintro e w' ⟨rfl, rfl⟩)) | (go_at_call 33; ((with_reducible refine (Hxz.out _).mono ?_); rintro e w' ⟨rfl, rfl⟩)) | (go_at_call 33; ((with_reducible refine (Hyx.out _).mono ?_); rintro e w' ⟨rfl, rfl⟩)) | (go_at_call 33; ((with_reducible refine (Hxx.out _).mono ?_); rintro e w' ⟨rfl, rfl⟩)) | (go_at_call 33; ((with_reducible refine (Hcx.out _).mono ?_); rintro e w' ⟨rfl, rfl⟩)) | (go_at_call 26; ((with_reducible refine (HX.out _).mono ?_); rintro e w' ⟨rfl, rfl⟩)) | (go_at_call 26; ((with_reducible refine (HY.out _).mono ?_); rintro e w' ⟨rfl, rfl⟩)) | (go_at_call 29; ((with_reducible refine (HR.out _).mono ?_); rintro e w' ⟨rfl, rfl⟩)) | (go_at_call 29; ((with_reducible refine (HS.out _).mono ?_); rintro e w' ⟨rfl, rfl⟩)) | (go_at_call 21; ((with_reducible refine (HKx.out _).mono ?_); rintro e w' ⟨rfl, rfl⟩)) | (go_at_call 21; ((with_reducible refine (HKy.out _).mono ?_); rintro e w' ⟨rfl, rfl⟩)) | (go_at_call 24; ((with_reducible refine (HCn.out _).mono ?_); rintro e w' ⟨rfl, rfl⟩)))
      go_at_call 15
      refine (first_any _ (hT.below hb1)).mono ?_
      rintro e w2 ⟨rfl, hb2⟩
      have hb3 := hb1.trans (hb2.mono hb1.size)
      clear hb1 hb2
      go_wp2_with (first | (go_at_call 33; ((with_reducible refine (Hxy.out _).mono ?_); rintro e w' ⟨rfl, rfl⟩)) | (go_at_call 33; ((with_reducible refine (Hyz.out _).mono ?_); rintro e w' ⟨rfl, rfl⟩)) | (go_at_call 33; ((with_reducible refine (Hxz.out _).mono ?_); rintro e w' ⟨rfl, rfl⟩)) | (go_at_call 33; ((with_reducible refine (Hyx.out _).mono ?_); rintro e w' ⟨rfl, rfl⟩)) | (go_at_call 33; ((with_reducible refine (Hxx.out _).mono ?_); rintro e w' ⟨rfl, rfl⟩)) | (go_at_call 33; ((with_reducible refine (Hcx.out _).mono ?_); rintro e w' ⟨rfl, rfl⟩)) | (go_at_call 26; ((with_reducible refine (HX.out _).mono ?_); rintro e w' ⟨rfl, rfl⟩)) | (go_at_call 26; ((with_reducible refine (HY.out _).mono ?_); rintro e w' ⟨rfl, rfl⟩)) | (go_at_call 29; ((with_reducible refine (HR.out _).mono ?_); rintro e w' ⟨rfl, rfl⟩)) | (go_at_call 29; ((with_reducible refine (HS.out _).mono ?_); rintro e w' ⟨rfl, rfl⟩)) | (go_at_call 21; ((with_reducible refine (HKx.out _).mono ?_); rintro e w' ⟨rfl, rfl⟩)) | (go_at_call 21; ((with_reducible refine (HKy.out _).mono ?_); rintro e w' ⟨rfl, rfl⟩)) | (go_at_call 24; ((with_reducible refine (HCn.out _).mono ?_); rintro e w' ⟨rfl, rfl⟩)))
      go_ret
      exact ⟨rfl, hb3⟩
    · have hk0 : (cx != 0) = true := bne_iff_ne.2 hk1
      have hk3 : decide (cx ≤ cy) = true := decide_eq_true hk2
      by_cases hy : cy = 0
      · subst hy
        clear hk1 hk2
        go_enter Tryd.func8, Tryd.ntmps8
        go_wp2_with fail
        go_at_call 15
        refine (first_any _ hT).mono ?_
        rintro e w1 ⟨rfl, hb1⟩
        go_wp2_with (first | (go_at_call 33; ((with_reducible refine (Hxy.out _).mono ?_); rintro e w' ⟨rfl, rfl⟩)) | (go_at_call 33; ((with_reducible refine (Hyz.out _).mono ?_); rintro e w' ⟨rfl, rfl⟩)) | (go_at_call 33; ((with_reducible refine (Hxz.out _).mono ?_); rintro e w' ⟨rfl, rfl⟩)) | (go_at_call 33; ((with_reducible refine (Hyx.out _).mono ?_); rintro e w' ⟨rfl, rfl⟩)) | (go_at_call 33; ((with_reducible refine (Hxx.out _).mono ?_); rintro e w' ⟨rfl, rfl⟩)) | (go_at_call 33; ((with_reducible refine (Hcx.out _).mono ?_); rintro e w' ⟨rfl, rfl⟩)) | (go_at_call 26; ((with_reducible refine (HX.out _).mono ?_); rintro e w' ⟨rfl, rfl⟩)) | (go_at_call 26; ((with_reducible refine (HY.out _).mono ?_); rintro e w' ⟨rfl, rfl⟩)) | (go_at_call 29; ((with_reducible refine (HR.out _).mono ?_); rintro e w' ⟨rfl, rfl⟩)) | (go_at_call 29; ((with_reducible refine (HS.out _).mono ?_); rintro e w' ⟨rfl, rfl⟩)) | (go_at_call 21; ((with_reducible refine (HKx.out _).mono ?_); rintro e w' ⟨rfl, rfl⟩)) | (go_at_call 21; ((with_reducible refine (HKy.out _).mono ?_); rintro e w' ⟨rfl, rfl⟩)) | (go_at_call 24; ((with_reducible refine (HCn.out _).mono ?_); rintro e w' ⟨rfl, rfl⟩)))
        go_at_call 15
        refine (first_any _ (hT.below hb1)).mono ?_
        rintro e w2 ⟨rfl, hb2⟩
        have hb3 := hb1.trans (hb2.mono hb1.size)
        clear hb1 hb2
        go_wp2_with (first | (go_at_call 33; ((with_reducible refine (Hxy.out _).mono ?_); rintro e w' ⟨rfl, rfl⟩)) | (go_at_call 33; ((with_reducible refine (Hyz.out _).mono ?_); rintro e w' ⟨rfl, rfl⟩)) | (go_at_call 33; ((with_reducible refine (Hxz.out _).mono ?_); rintro e w' ⟨rfl, rfl⟩)) | (go_at_call 33; ((with_reducible refine (Hyx.out _).mono ?_); rintro e w' ⟨rfl, rfl⟩)) | (go_at_call 33; ((with_reducible refine (Hxx.out _).mono ?_); rintro e w' ⟨rfl, rfl⟩)) | (go_at_call 33; ((with_reducible refine (Hcx.out _).mono ?_); rintro e w' ⟨rfl, rfl⟩)) | (go_at_call 26; ((with_reducible refine (HX.out _).mono ?_); rintro e w' ⟨rfl, rfl⟩)) | (go_at_call 26; ((with_reducible refine (HY.out _).mono ?_); rintro e w' ⟨rfl, rfl⟩)) | (go_at_call 29; ((with_reducible refine (HR.out _).mono ?_); rintro e w' ⟨rfl, rfl⟩)) | (go_at_call 29; ((with_reducible refine (HS.out _).mono ?_); rintro e w' ⟨rfl, rfl⟩)) | (go_at_call 21; ((with_reducible refine (HKx.out _).mono ?_); rintro e w' ⟨rfl, rfl⟩)) | (go_at_call 21; ((with_reducible refine (HKy.out _).mono ?_); rintro e w' ⟨rfl, rfl⟩)) | (go_at_call 24; ((with_reducible refine (HCn.out _).mono ?_); rintro e w' ⟨rfl, rfl⟩)))
        go_ret
        exact ⟨rfl, hb3⟩
      · have hy : (cy == 0) = false := beq_eq_false_iff_ne.2 hy
        clear hk1 hk2
        go_enter Tryd.func8, Tryd.ntmps8
        go_wp2_with fail
        go_at_call 15
        refine (first_any _ hT).mono ?_
        rintro e w1 ⟨rfl, hb1⟩
        go_wp2_with (first | (go_at_call 33; ((with_reducible refine (Hxy.out _).mono ?_); rintro e w' ⟨rfl, rfl⟩)) | (go_at_call 33; ((with_reducible refine (Hyz.out _).mono ?_); rintro e w' ⟨rfl, rfl⟩)) | (go_at_call 33; ((with_reducible refine (Hxz.out _).mono ?_); rintro e w' ⟨rfl, rfl⟩)) | (go_at_call 33; ((with_reducible refine (Hyx.out _).mono ?_); rintro e w' ⟨rfl, rfl⟩)) | (go_at_call 33; ((with_reducible refine (Hxx.out _).mono ?_); rintro e w' ⟨rfl, rfl⟩)) | (go_at_call 33; ((with_reducible refine (Hcx.out _).mono ?_); rintro e w' ⟨rfl, rfl⟩)) | (go_at_call 26; ((with_reducible refine (HX.out _).mono ?_); rintro e w' ⟨rfl, rfl⟩)) | (go_at_call 26; ((with_reducible refine (HY.out _).mono ?_); rintro e w' ⟨rfl, rfl⟩)) | (go_at_call 29; ((with_reducible refine (HR.out _).mono ?_); rintro e w' ⟨rfl, rfl⟩)) | (go_at_call 29; ((with_reducible refine (HS.out _).mono ?_); rintro e w' ⟨rfl, rfl⟩)) | (go_at_call 21; ((with_reducible refine (HKx.out _).mono ?_); rintro e w' ⟨rfl, rfl⟩)) | (go_at_call 21; ((with_reducible refine (HKy.out _).mono ?_); rintro e w' ⟨rfl, rfl⟩)) | (go_at_call 24; ((with_reducible refine (HCn.out _).mono ?_); rintro e w' ⟨rfl, rfl⟩)))
        go_at_call 15
        refine (first_any _ (hT.below hb1)).mono ?_
        rintro e w2 ⟨rfl, hb2⟩
        have hb3 := hb1.trans (hb2.mono hb1.size)
        clear hb1 hb2
        go_wp2_with (first | (go_at_call 33; ((with_reducible refine (Hxy.out _).mono ?_); rintro e w' ⟨rfl, rfl⟩)) | (go_at_call 33; ((with_reducible refine (Hyz.out _).mono ?_); rintro e w' ⟨rfl, rfl⟩)) | (go_at_call 33; ((with_reducible refine (Hxz.out _).mono ?_); rintro e w' ⟨rfl, rfl⟩)) | (go_at_call 33; ((with_reducible refine (Hyx.out _).mono ?_); rintro e w' ⟨rfl, rfl⟩)) | (go_at_call 33; ((with_reducible refine (Hxx.out _).mono ?_); rintro e w' ⟨rfl, rfl⟩)) | (go_at_call 33; ((with_reducible refine (Hcx.out _).mono ?_); rintro e w' ⟨rfl, rfl⟩)) | (go_at_call 26; ((with_reducible refine (HX.out _).mono ?_); rintro e w' ⟨rfl, rfl⟩)) | (go_at_call 26; ((with_reducible refine (HY.out _).mono ?_); rintro e w' ⟨rfl, rfl⟩)) | (go_at_call 29; ((with_reducible refine (HR.out _).mono ?_); rintro e w' ⟨rfl, rfl⟩)) | (go_at_call 29; ((with_reducible refine (HS.out _).mono ?_); rintro e w' ⟨rfl, rfl⟩)) | (go_at_call 21; ((with_reducible refine (HKx.out _).mono ?_); rintro e w' ⟨rfl, rfl⟩)) | (go_at_call 21; ((with_reducible refine (HKy.out _).mono ?_); rintro e w' ⟨rfl, rfl⟩)) | (go_at_call 24; ((with_reducible refine (HCn.out _).mono ?_); rintro e w' ⟨rfl, rfl⟩)))
        go_ret
        exact ⟨rfl, hb3⟩
set_option maxHeartbeats 1000000 in
theorem numOrder_eq (x y z : UInt64) (w : World) (hT : Laid w) (bc ac cx cy : Int) (X Y R S : UInt64) (d1 d2 : Bool) (q1 : decide (bc ≤ 0) = d1) (q2 : decide (ac ≤ 0) = d2) (hthru : d1 = true → d2 = true) 
    (hone : (n64 X == n64 Y) = true) (hr1 : decide (n64 R < n64 S) = false) (hr2 : decide (n64 S < n64 R) = false) (hk : cy = 0 ∨ (cx ≠ 0 ∧ cx ≤ cy))
    (Hxy : Hid (∀ W, Calls Tryd.prog 33 #[.float .f64 (fb x), .float .f64 (fb y)] W fun e w' => e = .returned (.int .i64 (0)) ∧ w' = W))
    (Hyz : Hid (∀ W, Calls Tryd.prog 33 #[.float .f64 (fb y), .float .f64 (fb z)] W fun e w' => e = .returned (.int .i64 bc) ∧ w' = W))
    (Hxz : Hid (∀ W, Calls Tryd.prog 33 #[.float .f64 (fb x), .float .f64 (fb z)] W fun e w' => e = .returned (.int .i64 ac) ∧ w' = W))
    (Hyx : Hid (∀ W, Calls Tryd.prog 33 #[.float .f64 (fb y), .float .f64 (fb x)] W fun e w' => e = .returned (.int .i64 (0)) ∧ w' = W))
    (Hxx : Hid (∀ W, Calls Tryd.prog 33 #[.float .f64 (fb x), .float .f64 (fb x)] W fun e w' => e = .returned (.int .i64 0) ∧ w' = W))
    (Hcx : Hid (∀ W, Calls Tryd.prog 33 #[.float .f64 (fb X), .float .f64 (fb x)] W fun e w' => e = .returned (.int .i64 0) ∧ w' = W))
    (HX : Hid (∀ W, Calls Tryd.prog 26 #[.float .f64 (fb x)] W fun e w' => e = .returned (.int .u64 (n64 X)) ∧ w' = W))
    (HY : Hid (∀ W, Calls Tryd.prog 26 #[.float .f64 (fb y)] W fun e w' => e = .returned (.int .u64 (n64 Y)) ∧ w' = W))
    (HR : Hid (∀ W, Calls Tryd.prog 29 #[.float .f64 (fb x)] W fun e w' => e = .returned (.int .u64 (n64 R)) ∧ w' = W))
    (HS : Hid (∀ W, Calls Tryd.prog 29 #[.float .f64 (fb y)] W fun e w' => e = .returned (.int .u64 (n64 S)) ∧ w' = W))
    (HKx : Hid (∀ W, Calls Tryd.prog 21 #[.float .f64 (fb x)] W fun e w' => e = .returned (.int .i64 cx) ∧ w' = W))
    (HKy : Hid (∀ W, Calls Tryd.prog 21 #[.float .f64 (fb y)] W fun e w' => e = .returned (.int .i64 cy) ∧ w' = W))
    (HCn : Hid (∀ W, Calls Tryd.prog 24 #[.float .f64 (fb x)] W fun e w' => e = .returned (.float .f64 (fb X)) ∧ w' = W)) :
    Calls Tryd.prog 8 #[.float .f64 (fb x), .float .f64 (fb y), .float .f64 (fb z)] w fun e w' => e = .returned (.bool true) ∧ Below w.heap.size w w' := by
  cases d1
  case true =>
    have hd := hthru rfl
    subst hd
    clear hthru
    rcases hk with hk | ⟨hk1, hk2⟩
    · subst hk
      go_enter Tryd.func8, Tryd.ntmps8
      go_wp2_with fail
      go_at_call 15
      refine (first_any _ hT).mono ?_
      rintro e w1 ⟨rfl, hb1⟩
      go_wp2_with (first | (go_at_call 33; ((with_reducible refine (Hxy.out _).mono ?_); rintro e w' ⟨rfl, rfl⟩)) | (go_at_call 33; ((with_reducible refine (Hyz.out _).mono ?_); rintro e w' ⟨rfl, rfl⟩)) | (go_at_call 33; ((with_reducible refine (Hxz.out _).mono ?_); rintro e w' ⟨rfl, rfl⟩)) | (go_at_call 33; ((with_reducible refine (Hyx.out _).mono ?_); rintro e w' ⟨rfl, rfl⟩)) | (go_at_call 33; ((with_reducible refine (Hxx.out _).mono ?_); rintro e w' ⟨rfl, rfl⟩)) | (go_at_call 33; ((with_reducible refine (Hcx.out _).mono ?_); rintro e w' ⟨rfl, rfl⟩)) | (go_at_call 26; ((with_reducible refine (HX.out _).mono ?_); rintro e w' ⟨rfl, rfl⟩)) | (go_at_call 26; ((with_reducible refine (HY.out _).mono ?_); rintro e w' ⟨rfl, rfl⟩)) | (go_at_call 29; ((with_reducible refine (HR.out _).mono ?_); rintro e w' ⟨rfl, rfl⟩)) | (go_at_call 29; ((with_reducible refine (HS.out _).mono ?_); rintro e w' ⟨rfl, rfl⟩)) | (go_at_call 21; ((with_reducible refine (HKx.out _).mono ?_); rintro e w' ⟨rfl, rfl⟩)) | (go_at_call 21; ((with_reducible refine (HKy.out _).mono ?_); rintro e w' ⟨rfl, rfl⟩)) | (go_at_call 24; ((with_reducible refine (HCn.out _).mono ?_); rintro e w' ⟨rfl, rfl⟩)))
      go_at_call 15
      refine (first_any _ (hT.below hb1)).mono ?_
      rintro e w2 ⟨rfl, hb2⟩
      have hb3 := hb1.trans (hb2.mono hb1.size)
      clear hb1 hb2
      go_wp2_with (first | (go_at_call 33; ((with_reducible refine (Hxy.out _).mono ?_); rintro e w' ⟨rfl, rfl⟩)) | (go_at_call 33; ((with_reducible refine (Hyz.out _).mono ?_); rintro e w' ⟨rfl, rfl⟩)) | (go_at_call 33; ((with_reducible refine (Hxz.out _).mono ?_); rintro e w' ⟨rfl, rfl⟩)) | (go_at_call 33; ((with_reducible refine (Hyx.out _).mono ?_); rintro e w' ⟨rfl, rfl⟩)) | (go_at_call 33; ((with_reducible refine (Hxx.out _).mono ?_); rintro e w' ⟨rfl, rfl⟩)) | (go_at_call 33; ((with_reducible refine (Hcx.out _).mono ?_); rintro e w' ⟨rfl, rfl⟩)) | (go_at_call 26; ((with_reducible refine (HX.out _).mono ?_); rintro e w' ⟨rfl, rfl⟩)) | (go_at_call 26; ((with_reducible refine (HY.out _).mono ?_); rintro e w' ⟨rfl, rfl⟩)) | (go_at_call 29; ((with_reducible refine (HR.out _).mono ?_); rintro e w' ⟨rfl, rfl⟩)) | (go_at_call 29; ((with_reducible refine (HS.out _).mono ?_); rintro e w' ⟨rfl, rfl⟩)) | (go_at_call 21; ((with_reducible refine (HKx.out _).mono ?_); rintro e w' ⟨rfl, rfl⟩)) | (go_at_call 21; ((with_reducible refine (HKy.out _).mono ?_); rintro e w' ⟨rfl, rfl⟩)) | (go_at_call 24; ((with_reducible refine (HCn.out _).mono ?_); rintro e w' ⟨rfl, rfl⟩)))
      go_ret
      exact ⟨rfl, hb3⟩
    · have hk0 : (cx != 0) = true := bne_iff_ne.2 hk1
      have hk3 : decide (cx ≤ cy) = true := decide_eq_true hk2
      by_cases hy : cy = 0
      · subst hy
        clear hk1 hk2
        go_enter Tryd.func8, Tryd.ntmps8
        go_wp2_with fail
        go_at_call 15
        refine (first_any _ hT).mono ?_
        rintro e w1 ⟨rfl, hb1⟩
        go_wp2_with (first | (go_at_call 33; ((with_reducible refine (Hxy.out _).mono ?_); rintro e w' ⟨rfl, rfl⟩)) | (go_at_call 33; ((with_reducible refine (Hyz.out _).mono ?_); rintro e w' ⟨rfl, rfl⟩)) | (go_at_call 33; ((with_reducible refine (Hxz.out _).mono ?_); rintro e w' ⟨rfl, rfl⟩)) | (go_at_call 33; ((with_reducible refine (Hyx.out _).mono ?_); rintro e w' ⟨rfl, rfl⟩)) | (go_at_call 33; ((with_reducible refine (Hxx.out _).mono ?_); rintro e w' ⟨rfl, rfl⟩)) | (go_at_call 33; ((with_reducible refine (Hcx.out _).mono ?_); rintro e w' ⟨rfl, rfl⟩)) | (go_at_call 26; ((with_reducible refine (HX.out _).mono ?_); rintro e w' ⟨rfl, rfl⟩)) | (go_at_call 26; ((with_reducible refine (HY.out _).mono ?_); rintro e w' ⟨rfl, rfl⟩)) | (go_at_call 29; ((with_reducible refine (HR.out _).mono ?_); rintro e w' ⟨rfl, rfl⟩)) | (go_at_call 29; ((with_reducible refine (HS.out _).mono ?_); rintro e w' ⟨rfl, rfl⟩)) | (go_at_call 21; ((with_reducible refine (HKx.out _).mono ?_); rintro e w' ⟨rfl, rfl⟩)) | (go_at_call 21; ((with_reducible refine (HKy.out _).mono ?_); rintro e w' ⟨rfl, rfl⟩)) | (go_at_call 24; ((with_reducible refine (HCn.out _).mono ?_); rintro e w' ⟨rfl, rfl⟩)))
        go_at_call 15
        refine (first_any _ (hT.below hb1)).mono ?_
        rintro e w2 ⟨rfl, hb2⟩
        have hb3 := hb1.trans (hb2.mono hb1.size)
        clear hb1 hb2
        go_wp2_with (first | (go_at_call 33; ((with_reducible refine (Hxy.out _).mono ?_); rintro e w' ⟨rfl, rfl⟩)) | (go_at_call 33; ((with_reducible refine (Hyz.out _).mono ?_); rintro e w' ⟨rfl, rfl⟩)) | (go_at_call 33; ((with_reducible refine (Hxz.out _).mono ?_); rintro e w' ⟨rfl, rfl⟩)) | (go_at_call 33; ((with_reducible refine (Hyx.out _).mono ?_); rintro e w' ⟨rfl, rfl⟩)) | (go_at_call 33; ((with_reducible refine (Hxx.out _).mono ?_); rintro e w' ⟨rfl, rfl⟩)) | (go_at_call 33; ((with_reducible refine (Hcx.out _).mono ?_); rintro e w' ⟨rfl, rfl⟩)) | (go_at_call 26; ((with_reducible refine (HX.out _).mono ?_); rintro e w' ⟨rfl, rfl⟩)) | (go_at_call 26; ((with_reducible refine (HY.out _).mono ?_); rintro e w' ⟨rfl, rfl⟩)) | (go_at_call 29; ((with_reducible refine (HR.out _).mono ?_); rintro e w' ⟨rfl, rfl⟩)) | (go_at_call 29; ((with_reducible refine (HS.out _).mono ?_); rintro e w' ⟨rfl, rfl⟩)) | (go_at_call 21; ((with_reducible refine (HKx.out _).mono ?_); rintro e w' ⟨rfl, rfl⟩)) | (go_at_call 21; ((with_reducible refine (HKy.out _).mono ?_); rintro e w' ⟨rfl, rfl⟩)) | (go_at_call 24; ((with_reducible refine (HCn.out _).mono ?_); rintro e w' ⟨rfl, rfl⟩)))
        go_ret
        exact ⟨rfl, hb3⟩
      · have hy : (cy == 0) = false := beq_eq_false_iff_ne.2 hy
        clear hk1 hk2
        go_enter Tryd.func8, Tryd.ntmps8
        go_wp2_with fail
        go_at_call 15
        refine (first_any _ hT).mono ?_
        rintro e w1 ⟨rfl, hb1⟩
        go_wp2_with (first | (go_at_call 33; ((with_reducible refine (Hxy.out _).mono ?_); rintro e w' ⟨rfl, rfl⟩)) | (go_at_call 33; ((with_reducible refine (Hyz.out _).mono ?_); rintro e w' ⟨rfl, rfl⟩)) | (go_at_call 33; ((with_reducible refine (Hxz.out _).mono ?_); rintro e w' ⟨rfl, rfl⟩)) | (go_at_call 33; ((with_reducible refine (Hyx.out _).mono ?_); rintro e w' ⟨rfl, rfl⟩)) | (go_at_call 33; ((with_reducible refine (Hxx.out _).mono ?_); rintro e w' ⟨rfl, rfl⟩)) | (go_at_call 33; ((with_reducible refine (Hcx.out _).mono ?_); rintro e w' ⟨rfl, rfl⟩)) | (go_at_call 26; ((with_reducible refine (HX.out _).mono ?_); rintro e w' ⟨rfl, rfl⟩)) | (go_at_call 26; ((with_reducible refine (HY.out _).mono ?_); rintro e w' ⟨rfl, rfl⟩)) | (go_at_call 29; ((with_reducible refine (HR.out _).mono ?_); rintro e w' ⟨rfl, rfl⟩)) | (go_at_call 29; ((with_reducible refine (HS.out _).mono ?_); rintro e w' ⟨rfl, rfl⟩)) | (go_at_call 21; ((with_reducible refine (HKx.out _).mono ?_); rintro e w' ⟨rfl, rfl⟩)) | (go_at_call 21; ((with_reducible refine (HKy.out _).mono ?_); rintro e w' ⟨rfl, rfl⟩)) | (go_at_call 24; ((with_reducible refine (HCn.out _).mono ?_); rintro e w' ⟨rfl, rfl⟩)))
        go_at_call 15
        refine (first_any _ (hT.below hb1)).mono ?_
        rintro e w2 ⟨rfl, hb2⟩
        have hb3 := hb1.trans (hb2.mono hb1.size)
        clear hb1 hb2
        go_wp2_with (first | (go_at_call 33; ((with_reducible refine (Hxy.out _).mono ?_); rintro e w' ⟨rfl, rfl⟩)) | (go_at_call 33; ((with_reducible refine (Hyz.out _).mono ?_); rintro e w' ⟨rfl, rfl⟩)) | (go_at_call 33; ((with_reducible refine (Hxz.out _).mono ?_); rintro e w' ⟨rfl, rfl⟩)) | (go_at_call 33; ((with_reducible refine (Hyx.out _).mono ?_); rintro e w' ⟨rfl, rfl⟩)) | (go_at_call 33; ((with_reducible refine (Hxx.out _).mono ?_); rintro e w' ⟨rfl, rfl⟩)) | (go_at_call 33; ((with_reducible refine (Hcx.out _).mono ?_); rintro e w' ⟨rfl, rfl⟩)) | (go_at_call 26; ((with_reducible refine (HX.out _).mono ?_); rintro e w' ⟨rfl, rfl⟩)) | (go_at_call 26; ((with_reducible refine (HY.out _).mono ?_); rintro e w' ⟨rfl, rfl⟩)) | (go_at_call 29; ((with_reducible refine (HR.out _).mono ?_); rintro e w' ⟨rfl, rfl⟩)) | (go_at_call 29; ((with_reducible refine (HS.out _).mono ?_); rintro e w' ⟨rfl, rfl⟩)) | (go_at_call 21; ((with_reducible refine (HKx.out _).mono ?_); rintro e w' ⟨rfl, rfl⟩)) | (go_at_call 21; ((with_reducible refine (HKy.out _).mono ?_); rintro e w' ⟨rfl, rfl⟩)) | (go_at_call 24; ((with_reducible refine (HCn.out _).mono ?_); rintro e w' ⟨rfl, rfl⟩)))
        go_ret
        exact ⟨rfl, hb3⟩
  case false =>
    clear hthru q2
    rcases hk with hk | ⟨hk1, hk2⟩
    · subst hk
      go_enter Tryd.func8, Tryd.ntmps8
      go_wp2_with fail
      go_at_call 15
      refine (first_any _ hT).mono ?_
      rintro e w1 ⟨rfl, hb1⟩
      go_wp2_with (first | (go_at_call 33; ((with_reducible refine (Hxy.out _).mono ?_); rintro e w' ⟨rfl, rfl⟩)) | (go_at_call 33; ((with_reducible refine (Hyz.out _).mono ?_); rintro e w' ⟨rfl, rfl⟩)) | (go_at_call 33; ((with_reducible refine (Hxz.out _).mono ?_); rintro e w' ⟨rfl, rfl⟩)) | (go_at_call 33; ((with_reducible refine (Hyx.out _).mono ?_); rintro e w' ⟨rfl, rfl⟩)) | (go_at_call 33; ((with_reducible refine (Hxx.out _).mono ?_); rintro e w' ⟨rfl, rfl⟩)) | (go_at_call 33; ((with_reducible refine (Hcx.out _).mono ?_); rintro e w' ⟨rfl, rfl⟩)) | (go_at_call 26; ((with_reducible refine (HX.out _).mono ?_); rintro e w' ⟨rfl, rfl⟩)) | (go_at_call 26; ((with_reducible refine (HY.out _).mono ?_); rintro e w' ⟨rfl, rfl⟩)) | (go_at_call 29; ((with_reducible refine (HR.out _).mono ?_); rintro e w' ⟨rfl, rfl⟩)) | (go_at_call 29; ((with_reducible refine (HS.out _).mono ?_); rintro e w' ⟨rfl, rfl⟩)) | (go_at_call 21; ((with_reducible refine (HKx.out _).mono ?_); rintro e w' ⟨rfl, rfl⟩)) | (go_at_call 21; ((with_reducible refine (HKy.out _).mono ?_); rintro e w' ⟨rfl, rfl⟩)) | (go_at_call 24; ((with_reducible refine (HCn.out _).mono ?_); rintro e w' ⟨rfl, rfl⟩)))
      go_at_call 15
      refine (first_any _ (hT.below hb1)).mono ?_
      rintro e w2 ⟨rfl, hb2⟩
      have hb3 := hb1.trans (hb2.mono hb1.size)
      clear hb1 hb2
      go_wp2_with (first | (go_at_call 33; ((with_reducible refine (Hxy.out _).mono ?_); rintro e w' ⟨rfl, rfl⟩)) | (go_at_call 33; ((with_reducible refine (Hyz.out _).mono ?_); rintro e w' ⟨rfl, rfl⟩)) | (go_at_call 33; ((with_reducible refine (Hxz.out _).mono ?_); rintro e w' ⟨rfl, rfl⟩)) | (go_at_call 33; ((with_reducible refine (Hyx.out _).mono ?_); rintro e w' ⟨rfl, rfl⟩)) | (go_at_call 33; ((with_reducible refine (Hxx.out _).mono ?_); rintro e w' ⟨rfl, rfl⟩)) | (go_at_call 33; ((with_reducible refine (Hcx.out _).mono ?_); rintro e w' ⟨rfl, rfl⟩)) | (go_at_call 26; ((with_reducible refine (HX.out _).mono ?_); rintro e w' ⟨rfl, rfl⟩)) | (go_at_call 26; ((with_reducible refine (HY.out _).mono ?_); rintro e w' ⟨rfl, rfl⟩)) | (go_at_call 29; ((with_reducible refine (HR.out _).mono ?_); rintro e w' ⟨rfl, rfl⟩)) | (go_at_call 29; ((with_reducible refine (HS.out _).mono ?_); rintro e w' ⟨rfl, rfl⟩)) | (go_at_call 21; ((with_reducible refine (HKx.out _).mono ?_); rintro e w' ⟨rfl, rfl⟩)) | (go_at_call 21; ((with_reducible refine (HKy.out _).mono ?_); rintro e w' ⟨rfl, rfl⟩)) | (go_at_call 24; ((with_reducible refine (HCn.out _).mono ?_); rintro e w' ⟨rfl, rfl⟩)))
      go_ret
      exact ⟨rfl, hb3⟩
    · have hk0 : (cx != 0) = true := bne_iff_ne.2 hk1
      have hk3 : decide (cx ≤ cy) = true := decide_eq_true hk2
      by_cases hy : cy = 0
      · subst hy
        clear hk1 hk2
        go_enter Tryd.func8, Tryd.ntmps8
        go_wp2_with fail
        go_at_call 15
        refine (first_any _ hT).mono ?_
        rintro e w1 ⟨rfl, hb1⟩
        go_wp2_with (first | (go_at_call 33; ((with_reducible refine (Hxy.out _).mono ?_); rintro e w' ⟨rfl, rfl⟩)) | (go_at_call 33; ((with_reducible refine (Hyz.out _).mono ?_); rintro e w' ⟨rfl, rfl⟩)) | (go_at_call 33; ((with_reducible refine (Hxz.out _).mono ?_); rintro e w' ⟨rfl, rfl⟩)) | (go_at_call 33; ((with_reducible refine (Hyx.out _).mono ?_); rintro e w' ⟨rfl, rfl⟩)) | (go_at_call 33; ((with_reducible refine (Hxx.out _).mono ?_); rintro e w' ⟨rfl, rfl⟩)) | (go_at_call 33; ((with_reducible refine (Hcx.out _).mono ?_); rintro e w' ⟨rfl, rfl⟩)) | (go_at_call 26; ((with_reducible refine (HX.out _).mono ?_); rintro e w' ⟨rfl, rfl⟩)) | (go_at_call 26; ((with_reducible refine (HY.out _).mono ?_); rintro e w' ⟨rfl, rfl⟩)) | (go_at_call 29; ((with_reducible refine (HR.out _).mono ?_); rintro e w' ⟨rfl, rfl⟩)) | (go_at_call 29; ((with_reducible refine (HS.out _).mono ?_); rintro e w' ⟨rfl, rfl⟩)) | (go_at_call 21; ((with_reducible refine (HKx.out _).mono ?_); rintro e w' ⟨rfl, rfl⟩)) | (go_at_call 21; ((with_reducible refine (HKy.out _).mono ?_); rintro e w' ⟨rfl, rfl⟩)) | (go_at_call 24; ((with_reducible refine (HCn.out _).mono ?_); rintro e w' ⟨rfl, rfl⟩)))
        go_at_call 15
        refine (first_any _ (hT.below hb1)).mono ?_
        rintro e w2 ⟨rfl, hb2⟩
        have hb3 := hb1.trans (hb2.mono hb1.size)
        clear hb1 hb2
        go_wp2_with (first | (go_at_call 33; ((with_reducible refine (Hxy.out _).mono ?_); rintro e w' ⟨rfl, rfl⟩)) | (go_at_call 33; ((with_reducible refine (Hyz.out _).mono ?_); rintro e w' ⟨rfl, rfl⟩)) | (go_at_call 33; ((with_reducible refine (Hxz.out _).mono ?_); rintro e w' ⟨rfl, rfl⟩)) | (go_at_call 33; ((with_reducible refine (Hyx.out _).mono ?_); rintro e w' ⟨rfl, rfl⟩)) | (go_at_call 33; ((with_reducible refine (Hxx.out _).mono ?_); rintro e w' ⟨rfl, rfl⟩)) | (go_at_call 33; ((with_reducible refine (Hcx.out _).mono ?_); rintro e w' ⟨rfl, rfl⟩)) | (go_at_call 26; ((with_reducible refine (HX.out _).mono ?_); rintro e w' ⟨rfl, rfl⟩)) | (go_at_call 26; ((with_reducible refine (HY.out _).mono ?_); rintro e w' ⟨rfl, rfl⟩)) | (go_at_call 29; ((with_reducible refine (HR.out _).mono ?_); rintro e w' ⟨rfl, rfl⟩)) | (go_at_call 29; ((with_reducible refine (HS.out _).mono ?_); rintro e w' ⟨rfl, rfl⟩)) | (go_at_call 21; ((with_reducible refine (HKx.out _).mono ?_); rintro e w' ⟨rfl, rfl⟩)) | (go_at_call 21; ((with_reducible refine (HKy.out _).mono ?_); rintro e w' ⟨rfl, rfl⟩)) | (go_at_call 24; ((with_reducible refine (HCn.out _).mono ?_); rintro e w' ⟨rfl, rfl⟩)))
        go_ret
        exact ⟨rfl, hb3⟩
      · have hy : (cy == 0) = false := beq_eq_false_iff_ne.2 hy
        clear hk1 hk2
        go_enter Tryd.func8, Tryd.ntmps8
        go_wp2_with fail
        go_at_call 15
        refine (first_any _ hT).mono ?_
        rintro e w1 ⟨rfl, hb1⟩
        go_wp2_with (first | (go_at_call 33; ((with_reducible refine (Hxy.out _).mono ?_); rintro e w' ⟨rfl, rfl⟩)) | (go_at_call 33; ((with_reducible refine (Hyz.out _).mono ?_); rintro e w' ⟨rfl, rfl⟩)) | (go_at_call 33; ((with_reducible refine (Hxz.out _).mono ?_); rintro e w' ⟨rfl, rfl⟩)) | (go_at_call 33; ((with_reducible refine (Hyx.out _).mono ?_); rintro e w' ⟨rfl, rfl⟩)) | (go_at_call 33; ((with_reducible refine (Hxx.out _).mono ?_); rintro e w' ⟨rfl, rfl⟩)) | (go_at_call 33; ((with_reducible refine (Hcx.out _).mono ?_); rintro e w' ⟨rfl, rfl⟩)) | (go_at_call 26; ((with_reducible refine (HX.out _).mono ?_); rintro e w' ⟨rfl, rfl⟩)) | (go_at_call 26; ((with_reducible refine (HY.out _).mono ?_); rintro e w' ⟨rfl, rfl⟩)) | (go_at_call 29; ((with_reducible refine (HR.out _).mono ?_); rintro e w' ⟨rfl, rfl⟩)) | (go_at_call 29; ((with_reducible refine (HS.out _).mono ?_); rintro e w' ⟨rfl, rfl⟩)) | (go_at_call 21; ((with_reducible refine (HKx.out _).mono ?_); rintro e w' ⟨rfl, rfl⟩)) | (go_at_call 21; ((with_reducible refine (HKy.out _).mono ?_); rintro e w' ⟨rfl, rfl⟩)) | (go_at_call 24; ((with_reducible refine (HCn.out _).mono ?_); rintro e w' ⟨rfl, rfl⟩)))
        go_at_call 15
        refine (first_any _ (hT.below hb1)).mono ?_
        rintro e w2 ⟨rfl, hb2⟩
        have hb3 := hb1.trans (hb2.mono hb1.size)
        clear hb1 hb2
        go_wp2_with (first | (go_at_call 33; ((with_reducible refine (Hxy.out _).mono ?_); rintro e w' ⟨rfl, rfl⟩)) | (go_at_call 33; ((with_reducible refine (Hyz.out _).mono ?_); rintro e w' ⟨rfl, rfl⟩)) | (go_at_call 33; ((with_reducible refine (Hxz.out _).mono ?_); rintro e w' ⟨rfl, rfl⟩)) | (go_at_call 33; ((with_reducible refine (Hyx.out _).mono ?_); rintro e w' ⟨rfl, rfl⟩)) | (go_at_call 33; ((with_reducible refine (Hxx.out _).mono ?_); rintro e w' ⟨rfl, rfl⟩)) | (go_at_call 33; ((with_reducible refine (Hcx.out _).mono ?_); rintro e w' ⟨rfl, rfl⟩)) | (go_at_call 26; ((with_reducible refine (HX.out _).mono ?_); rintro e w' ⟨rfl, rfl⟩)) | (go_at_call 26; ((with_reducible refine (HY.out _).mono ?_); rintro e w' ⟨rfl, rfl⟩)) | (go_at_call 29; ((with_reducible refine (HR.out _).mono ?_); rintro e w' ⟨rfl, rfl⟩)) | (go_at_call 29; ((with_reducible refine (HS.out _).mono ?_); rintro e w' ⟨rfl, rfl⟩)) | (go_at_call 21; ((with_reducible refine (HKx.out _).mono ?_); rintro e w' ⟨rfl, rfl⟩)) | (go_at_call 21; ((with_reducible refine (HKy.out _).mono ?_); rintro e w' ⟨rfl, rfl⟩)) | (go_at_call 24; ((with_reducible refine (HCn.out _).mono ?_); rintro e w' ⟨rfl, rfl⟩)))
        go_ret
        exact ⟨rfl, hb3⟩
set_option maxHeartbeats 1000000 in
theorem numOrder_gt (x y z : UInt64) (w : World) (hT : Laid w) (bc ac cx cy : Int) (X Y R S : UInt64) 
    (hone : (n64 X == n64 Y) = false) (hr1 : decide (n64 R < n64 S) = false) (hr2 : decide (n64 S < n64 R) = true)
    (Hxy : Hid (∀ W, Calls Tryd.prog 33 #[.float .f64 (fb x), .float .f64 (fb y)] W fun e w' => e = .returned (.int .i64 (1)) ∧ w' = W))
    (Hyz : Hid (∀ W, Calls Tryd.prog 33 #[.float .f64 (fb y), .float .f64 (fb z)] W fun e w' => e = .returned (.int .i64 bc) ∧ w' = W))
    (Hxz : Hid (∀ W, Calls Tryd.prog 33 #[.float .f64 (fb x), .float .f64 (fb z)] W fun e w' => e = .returned (.int .i64 ac) ∧ w' = W))
    (Hyx : Hid (∀ W, Calls Tryd.prog 33 #[.float .f64 (fb y), .float .f64 (fb x)] W fun e w' => e = .returned (.int .i64 (-1)) ∧ w' = W))
    (Hxx : Hid (∀ W, Calls Tryd.prog 33 #[.float .f64 (fb x), .float .f64 (fb x)] W fun e w' => e = .returned (.int .i64 0) ∧ w' = W))
    (Hcx : Hid (∀ W, Calls Tryd.prog 33 #[.float .f64 (fb X), .float .f64 (fb x)] W fun e w' => e = .returned (.int .i64 0) ∧ w' = W))
    (HX : Hid (∀ W, Calls Tryd.prog 26 #[.float .f64 (fb x)] W fun e w' => e = .returned (.int .u64 (n64 X)) ∧ w' = W))
    (HY : Hid (∀ W, Calls Tryd.prog 26 #[.float .f64 (fb y)] W fun e w' => e = .returned (.int .u64 (n64 Y)) ∧ w' = W))
    (HR : Hid (∀ W, Calls Tryd.prog 29 #[.float .f64 (fb x)] W fun e w' => e = .returned (.int .u64 (n64 R)) ∧ w' = W))
    (HS : Hid (∀ W, Calls Tryd.prog 29 #[.float .f64 (fb y)] W fun e w' => e = .returned (.int .u64 (n64 S)) ∧ w' = W))
    (_HKx : Hid (∀ W, Calls Tryd.prog 21 #[.float .f64 (fb x)] W fun e w' => e = .returned (.int .i64 cx) ∧ w' = W))
    (_HKy : Hid (∀ W, Calls Tryd.prog 21 #[.float .f64 (fb y)] W fun e w' => e = .returned (.int .i64 cy) ∧ w' = W))
    (HCn : Hid (∀ W, Calls Tryd.prog 24 #[.float .f64 (fb x)] W fun e w' => e = .returned (.float .f64 (fb X)) ∧ w' = W)) :
    Calls Tryd.prog 8 #[.float .f64 (fb x), .float .f64 (fb y), .float .f64 (fb z)] w fun e w' => e = .returned (.bool true) ∧ Below w.heap.size w w' := by
  go_enter Tryd.func8, Tryd.ntmps8
  go_wp2_with fail
  go_at_call 15
  refine (first_any _ hT).mono ?_
  rintro e w1 ⟨rfl, hb1⟩
  go_wp2_with (first | (go_at_call 33; ((with_reducible refine (Hxy.out _).mono ?_); rintro e w' ⟨rfl, rfl⟩)) | (go_at_call 33; ((with_reducible refine (Hyz.out _).mono ?_); rintro e w' ⟨rfl, rfl⟩)) | (go_at_call 33; ((with_reducible refine (Hxz.out _).mono ?_); rintro e w' ⟨rfl, rfl⟩)) | (go_at_call 33; ((with_reducible refine (Hyx.out _).mono ?_); rintro e w' ⟨rfl, rfl⟩)) | (go_at_call 33; ((with_reducible refine (Hxx.out _).mono ?_); rintro e w' ⟨rfl, rfl⟩)) | (go_at_call 33; ((with_reducible refine (Hcx.out _).mono ?_); rintro e w' ⟨rfl, rfl⟩)) | (go_at_call 26; ((with_reducible refine (HX.out _).mono ?_); rintro e w' ⟨rfl, rfl⟩)) | (go_at_call 26; ((with_reducible refine (HY.out _).mono ?_); rintro e w' ⟨rfl, rfl⟩)) | (go_at_call 29; ((with_reducible refine (HR.out _).mono ?_); rintro e w' ⟨rfl, rfl⟩)) | (go_at_call 29; ((with_reducible refine (HS.out _).mono ?_); rintro e w' ⟨rfl, rfl⟩)) | (go_at_call 21; ((with_reducible refine (HKx.out _).mono ?_); rintro e w' ⟨rfl, rfl⟩)) | (go_at_call 21; ((with_reducible refine (HKy.out _).mono ?_); rintro e w' ⟨rfl, rfl⟩)) | (go_at_call 24; ((with_reducible refine (HCn.out _).mono ?_); rintro e w' ⟨rfl, rfl⟩)))
  go_at_call 15
  refine (first_any _ (hT.below hb1)).mono ?_
  rintro e w2 ⟨rfl, hb2⟩
  have hb3 := hb1.trans (hb2.mono hb1.size)
  clear hb1 hb2
  go_wp2_with (first | (go_at_call 33; ((with_reducible refine (Hxy.out _).mono ?_); rintro e w' ⟨rfl, rfl⟩)) | (go_at_call 33; ((with_reducible refine (Hyz.out _).mono ?_); rintro e w' ⟨rfl, rfl⟩)) | (go_at_call 33; ((with_reducible refine (Hxz.out _).mono ?_); rintro e w' ⟨rfl, rfl⟩)) | (go_at_call 33; ((with_reducible refine (Hyx.out _).mono ?_); rintro e w' ⟨rfl, rfl⟩)) | (go_at_call 33; ((with_reducible refine (Hxx.out _).mono ?_); rintro e w' ⟨rfl, rfl⟩)) | (go_at_call 33; ((with_reducible refine (Hcx.out _).mono ?_); rintro e w' ⟨rfl, rfl⟩)) | (go_at_call 26; ((with_reducible refine (HX.out _).mono ?_); rintro e w' ⟨rfl, rfl⟩)) | (go_at_call 26; ((with_reducible refine (HY.out _).mono ?_); rintro e w' ⟨rfl, rfl⟩)) | (go_at_call 29; ((with_reducible refine (HR.out _).mono ?_); rintro e w' ⟨rfl, rfl⟩)) | (go_at_call 29; ((with_reducible refine (HS.out _).mono ?_); rintro e w' ⟨rfl, rfl⟩)) | (go_at_call 21; ((with_reducible refine (HKx.out _).mono ?_); rintro e w' ⟨rfl, rfl⟩)) | (go_at_call 21; ((with_reducible refine (HKy.out _).mono ?_); rintro e w' ⟨rfl, rfl⟩)) | (go_at_call 24; ((with_reducible refine (HCn.out _).mono ?_); rintro e w' ⟨rfl, rfl⟩)))
  go_ret
  exact ⟨rfl, hb3⟩
theorem numOrder_walk (x y z : UInt64) (w : World) (hT : Laid w) : Calls Tryd.prog 8 #[.float .f64 (fb x), .float .f64 (fb y), .float .f64 (fb z)] w fun e w' => e = .returned (.bool true) ∧ Below w.heap.size w w' := by
  have hz := cmp_zero x y
  have t1 := cmp_le y z
  have t2 := cmp_le x z
  rcases cmp_cases x y with ⟨h1, h2⟩ | ⟨h1, h2⟩ | ⟨h1, h2⟩
  · exact numOrder_lt x y z w hT (cmpOf y z) (cmpOf x z) (classOf x) (classOf y) (canon x) (canon y) (rankOf x) (rankOf y) _ _ rfl rfl (fun h => decide_eq_true (t2.2 (by have := t1.1 (of_decide_eq_true h); omega)))
      (by rw [nn_eq]; exact decide_eq_false (fun h => by have := hz.2 h; omega)) (by rw [nn_lt]; exact decide_eq_true h2) (by rw [nn_lt]; exact decide_eq_false (by omega)) (class_mono x y (by omega))
      (fun W => by rw [← h1]; exact compare_any x y W) (fun W => compare_any y z W) (fun W => compare_any x z W) (fun W => by have := compare_any y x W; rw [cmp_turn x y, h1] at this; exact this) (fun W => by have := compare_any x x W; rw [cmp_self] at this; exact this) (fun W => by have := compare_any (canon x) x W; rw [cmp_canon] at this; exact this) (fun W => bitsF_any x W) (fun W => bitsF_any y W) (fun W => rank_any x W) (fun W => rank_any y W) (fun W => class_any x W) (fun W => class_any y W) (fun W => canon_any x W)
  · exact numOrder_eq x y z w hT (cmpOf y z) (cmpOf x z) (classOf x) (classOf y) (canon x) (canon y) (rankOf x) (rankOf y) _ _ rfl rfl (fun h => decide_eq_true (t2.2 (by have := t1.1 (of_decide_eq_true h); omega)))
      (by rw [nn_eq]; exact decide_eq_true (hz.1 h1)) (by rw [nn_lt]; exact decide_eq_false (by omega)) (by rw [nn_lt]; exact decide_eq_false (by omega)) (class_mono x y (by omega))
      (fun W => by rw [← h1]; exact compare_any x y W) (fun W => compare_any y z W) (fun W => compare_any x z W) (fun W => by have := compare_any y x W; rw [cmp_turn x y, h1] at this; exact this) (fun W => by have := compare_any x x W; rw [cmp_self] at this; exact this) (fun W => by have := compare_any (canon x) x W; rw [cmp_canon] at this; exact this) (fun W => bitsF_any x W) (fun W => bitsF_any y W) (fun W => rank_any x W) (fun W => rank_any y W) (fun W => class_any x W) (fun W => class_any y W) (fun W => canon_any x W)
  · exact numOrder_gt x y z w hT (cmpOf y z) (cmpOf x z) (classOf x) (classOf y) (canon x) (canon y) (rankOf x) (rankOf y)
      (by rw [nn_eq]; exact decide_eq_false (fun h => by have := hz.2 h; omega)) (by rw [nn_lt]; exact decide_eq_false (by omega)) (by rw [nn_lt]; exact decide_eq_true h2)
      (fun W => by rw [← h1]; exact compare_any x y W) (fun W => compare_any y z W) (fun W => compare_any x z W) (fun W => by have := compare_any y x W; rw [cmp_turn x y, h1] at this; exact this) (fun W => by have := compare_any x x W; rw [cmp_self] at this; exact this) (fun W => by have := compare_any (canon x) x W; rw [cmp_canon] at this; exact this) (fun W => bitsF_any x W) (fun W => bitsF_any y W) (fun W => rank_any x W) (fun W => rank_any y W) (fun W => class_any x W) (fun W => class_any y W) (fun W => canon_any x W)
end Go.Proofs.YtachfcdkokndfaaDoor
