/-
  The walk of DatumAdds. Written by a program (dlaw.py).
-/
import Derived.Test.YtecgjhjglklcnaaDoorD20
namespace Go.Proofs.YtecgjhjglklcnaaDoor
set_option maxRecDepth 100000
open Go.RowKit Go.Shelf Go.Sort
attribute [local go_sem] bs_size bs_get bs_toList frombits tobits run_store_float
theorem cnum0 (W : World) : Calls Tryd.prog 14 #[.float .f64 0] W fun e w' => e = .returned (.agg #[.int .i64 1, .float .f64 (fb 0), .string (bs [])]) ∧ Below W.heap.size W w' := by
  have := number_val 0 W
  rw [show canon 0 = 0 by decide +kernel] at this; exact this
set_option maxHeartbeats 2000000 in
theorem adds_l1 (ka : Int) (xa : UInt64) (sa : List UInt8) (kb : Int) (xb : UInt64) (sb : List UInt8) (w : World) (hT : Laid w) (HA : Hid (decide (sa.length ≤ 2000) = false)) : Calls Tryd.prog 6 #[VA ka xa sa, VA kb xb sb] w fun e w' => e = .returned (.bool true) ∧ Below w.heap.size w w' := by
  unfold VA
  have HK : Hid (Kp w ((w.alloc (.cells #[.int .i64 ka, .float .f64 (fb xa), .string (bs sa)] 24)).alloc (.cells #[.int .i64 kb, .float .f64 (fb xb), .string (bs sb)] 24))) := ((Kp.start hT).alloc _).alloc _
  clear hT
  obtain ⟨c0, c1, c2, c3, c4, c5⟩ := vat2 w ka xa sa kb xb sb 24 rfl
  go_enter Tryd.func6, Tryd.ntmps6
  go_wp2_with (first | (go_at_call 11; ((with_reducible refine (first_any _ HK.out.laid).mono ?_); rintro e W ⟨rfl, hb⟩; have h4 := keepc6 ⟨c0, c1, c2, c3, c4, c5, HK.out⟩ hb; clear c0 c1 c2 c3 c4 c5 HK hb; obtain ⟨c0, c1, c2, c3, c4, c5, HK'⟩ := h4; have HK := Lib.hid HK'; clear HK')))
  go_at_call 12
  refine (csmall HA.out _).mono ?_
  rintro e W ⟨rfl, hb⟩
  have h4 := keepc6 ⟨c0, c1, c2, c3, c4, c5, HK.out⟩ hb
  clear c0 c1 c2 c3 c4 c5 HK hb
  obtain ⟨c0, c1, c2, c3, c4, c5, HK'⟩ := h4
  have HK := Lib.hid HK'
  clear HK'
  go_wp2_with (first | (go_at_call 11; ((with_reducible refine (first_any _ HK.out.laid).mono ?_); rintro e W ⟨rfl, hb⟩; have h4 := keepc6 ⟨c0, c1, c2, c3, c4, c5, HK.out⟩ hb; clear c0 c1 c2 c3 c4 c5 HK hb; obtain ⟨c0, c1, c2, c3, c4, c5, HK'⟩ := h4; have HK := Lib.hid HK'; clear HK')))
  go_ret
  exact ⟨rfl, HK.out.below⟩
set_option maxHeartbeats 2000000 in
theorem adds_l2 (ka : Int) (xa : UInt64) (sa : List UInt8) (kb : Int) (xb : UInt64) (sb : List UInt8) (w : World) (hT : Laid w) (HA : Hid (decide (sa.length ≤ 2000) = true)) (HB : Hid (decide (sb.length ≤ 2000) = false)) : Calls Tryd.prog 6 #[VA ka xa sa, VA kb xb sb] w fun e w' => e = .returned (.bool true) ∧ Below w.heap.size w w' := by
  unfold VA
  have HK : Hid (Kp w ((w.alloc (.cells #[.int .i64 ka, .float .f64 (fb xa), .string (bs sa)] 24)).alloc (.cells #[.int .i64 kb, .float .f64 (fb xb), .string (bs sb)] 24))) := ((Kp.start hT).alloc _).alloc _
  clear hT
  obtain ⟨c0, c1, c2, c3, c4, c5⟩ := vat2 w ka xa sa kb xb sb 24 rfl
  go_enter Tryd.func6, Tryd.ntmps6
  go_wp2_with (first | (go_at_call 11; ((with_reducible refine (first_any _ HK.out.laid).mono ?_); rintro e W ⟨rfl, hb⟩; have h4 := keepc6 ⟨c0, c1, c2, c3, c4, c5, HK.out⟩ hb; clear c0 c1 c2 c3 c4 c5 HK hb; obtain ⟨c0, c1, c2, c3, c4, c5, HK'⟩ := h4; have HK := Lib.hid HK'; clear HK')))
  go_at_call 12
  refine (csmall HA.out _).mono ?_
  rintro e W ⟨rfl, hb⟩
  have h4 := keepc6 ⟨c0, c1, c2, c3, c4, c5, HK.out⟩ hb
  clear c0 c1 c2 c3 c4 c5 HK hb
  obtain ⟨c0, c1, c2, c3, c4, c5, HK'⟩ := h4
  have HK := Lib.hid HK'
  clear HK'
  go_wp2_with fail
  go_at_call 12
  refine (csmall HB.out _).mono ?_
  rintro e W ⟨rfl, hb⟩
  have h4 := keepc6 ⟨c0, c1, c2, c3, c4, c5, HK.out⟩ hb
  clear c0 c1 c2 c3 c4 c5 HK hb
  obtain ⟨c0, c1, c2, c3, c4, c5, HK'⟩ := h4
  have HK := Lib.hid HK'
  clear HK'
  go_wp2_with (first | (go_at_call 11; ((with_reducible refine (first_any _ HK.out.laid).mono ?_); rintro e W ⟨rfl, hb⟩; have h4 := keepc6 ⟨c0, c1, c2, c3, c4, c5, HK.out⟩ hb; clear c0 c1 c2 c3 c4 c5 HK hb; obtain ⟨c0, c1, c2, c3, c4, c5, HK'⟩ := h4; have HK := Lib.hid HK'; clear HK')))
  go_ret
  exact ⟨rfl, HK.out.below⟩
set_option maxHeartbeats 4000000 in
theorem adds_1 (ka : Int) (xa : UInt64) (sa : List UInt8) (kb : Int) (xb : UInt64) (sb : List UInt8) (w : World) (hT : Laid w) (HA : Hid (decide (sa.length ≤ 2000) = true)) (HB : Hid (decide (sb.length ≤ 2000) = true)) (mA mB u1 u2 : Bool) (MA : Hid (mayB ka xa sa = mA)) (MB : Hid (mayB kb xb sb = mB)) (hu1 : (ka != 2) = u1) (hu2 : (kb != 2) = u2) (p : PV) (HP : Hid (plusD ka xa sa kb xb sb = p)) (HQ : Hid (plusD kb xb sb ka xa sa = p)) (hpe : (p.e == 0) = (mA && (mB && (u1 && u2)))) (z : PV) (HZ : Hid (plusD ka xa sa 0 0 [] = z)) (hend : mA = false ∨ (ka != 1) = true) : Calls Tryd.prog 6 #[VA ka xa sa, VA kb xb sb] w fun e w' => e = .returned (.bool true) ∧ Below w.heap.size w w' := by
  unfold VA
  have HK : Hid (Kp w ((w.alloc (.cells #[.int .i64 ka, .float .f64 (fb xa), .string (bs sa)] 24)).alloc (.cells #[.int .i64 kb, .float .f64 (fb xb), .string (bs sb)] 24))) := ((Kp.start hT).alloc _).alloc _
  clear hT
  obtain ⟨c0, c1, c2, c3, c4, c5⟩ := vat2 w ka xa sa kb xb sb 24 rfl
  cases mA
  case' true => cases mB
  case' true.true => cases u1
  case' true.true.true => cases u2
  case' false => clear hend
  all_goals
    try (have hk1 : (ka != 1) = true := by rcases hend with h | h; cases h; exact h)
    try clear hend
    simp only [Bool.and_true, Bool.and_false, Bool.false_and] at hpe
    go_enter Tryd.func6, Tryd.ntmps6
    go_wp2_with (first | (go_at_call 11; ((with_reducible refine (first_any _ HK.out.laid).mono ?_); rintro e W ⟨rfl, hb⟩; have h4 := keepc6 ⟨c0, c1, c2, c3, c4, c5, HK.out⟩ hb; clear c0 c1 c2 c3 c4 c5 HK hb; obtain ⟨c0, c1, c2, c3, c4, c5, HK'⟩ := h4; have HK := Lib.hid HK'; clear HK')))
    go_at_call 12
    refine (csmall HA.out _).mono ?_
    rintro e W ⟨rfl, hb⟩
    have h4 := keepc6 ⟨c0, c1, c2, c3, c4, c5, HK.out⟩ hb
    clear c0 c1 c2 c3 c4 c5 HK hb
    obtain ⟨c0, c1, c2, c3, c4, c5, HK'⟩ := h4
    have HK := Lib.hid HK'
    clear HK'
    go_wp2_with fail
    go_at_call 12
    refine (csmall HB.out _).mono ?_
    rintro e W ⟨rfl, hb⟩
    have h4 := keepc6 ⟨c0, c1, c2, c3, c4, c5, HK.out⟩ hb
    clear c0 c1 c2 c3 c4 c5 HK hb
    obtain ⟨c0, c1, c2, c3, c4, c5, HK'⟩ := h4
    have HK := Lib.hid HK'
    clear HK'
    go_wp2_with fail
    go_at_call 30
    refine (cplusA _ _ _ _ _ _ HP.out _).mono ?_
    rintro e Wp ⟨rfl, hb⟩
    have h4 := keepc6 ⟨c0, c1, c2, c3, c4, c5, HK.out⟩ hb
    clear c0 c1 c2 c3 c4 c5 HK hb
    obtain ⟨c0, c1, c2, c3, c4, c5, HK'⟩ := h4
    have HK := Lib.hid HK'
    clear HK'
    have l0 : w.heap.size < Wp.heap.size := World.block_lt_of_cell? _ _ c0
    have l1 : w.heap.size + 1 < Wp.heap.size := World.block_lt_of_cell? _ _ c3
    go_wp2_with fail
    go_at_call 30
    refine (cplusA _ _ _ _ _ _ HQ.out _).mono ?_
    rintro e Wq ⟨rfl, hb⟩
    have h4 := keepca6 ⟨c0, c1, c2, c3, c4, c5, HK.out⟩ hb
    have hv := vat Wp p.k p.x p.s 24
    have d0 := keep1 hv.1 hb
    have d1 := keep1 hv.2.1 hb
    have d2 := keep1 hv.2.2 hb
    clear hv
    clear c0 c1 c2 c3 c4 c5 HK hb
    obtain ⟨c0, c1, c2, c3, c4, c5, HK'⟩ := h4
    have HK := Lib.hid HK'
    clear HK'
    have c6 := d0
    have c7 := d1
    have c8 := d2
    clear d0 d1 d2
    have l0 : w.heap.size < Wq.heap.size := World.block_lt_of_cell? _ _ c0
    have l1 : w.heap.size + 1 < Wq.heap.size := World.block_lt_of_cell? _ _ c3
    have l2 : Wp.heap.size < Wq.heap.size := World.block_lt_of_cell? _ _ c6
    go_wp2_with fail
    have hv := vat Wq p.k p.x p.s 24
    have h4 := keepc9 ⟨c0, c1, c2, c3, c4, c5, c6, c7, c8, HK.out⟩ ((Below.refl _ _).alloc (Nat.le_refl _) (.cells #[.int .i64 p.k, .float .f64 (fb p.x), .string (bs p.s)] 24))
    clear c0 c1 c2 c3 c4 c5 c6 c7 c8 HK
    obtain ⟨c0, c1, c2, c3, c4, c5, c6, c7, c8, HK'⟩ := h4
    have HK := Lib.hid HK'
    clear HK'
    obtain ⟨c9, c10, c11⟩ := hv
    go_wp2_with (first | (go_at_call 13; ((with_reducible refine (cval_self _ _ _ _).mono ?_); rintro e W ⟨rfl, hb⟩; have h4 := keepc12 ⟨c0, c1, c2, c3, c4, c5, c6, c7, c8, c9, c10, c11, HK.out⟩ hb; clear c0 c1 c2 c3 c4 c5 c6 c7 c8 c9 c10 c11 HK hb; obtain ⟨c0, c1, c2, c3, c4, c5, c6, c7, c8, c9, c10, c11, HK'⟩ := h4; have HK := Lib.hid HK'; clear HK')) | (go_at_call 20; ((with_reducible refine (cmayB ka xa sa MA.out _).mono ?_); rintro e W ⟨rfl, hb⟩; have h4 := keepc12 ⟨c0, c1, c2, c3, c4, c5, c6, c7, c8, c9, c10, c11, HK.out⟩ hb; clear c0 c1 c2 c3 c4 c5 c6 c7 c8 c9 c10 c11 HK hb; obtain ⟨c0, c1, c2, c3, c4, c5, c6, c7, c8, c9, c10, c11, HK'⟩ := h4; have HK := Lib.hid HK'; clear HK')) | (go_at_call 20; ((with_reducible refine (cmayB kb xb sb MB.out _).mono ?_); rintro e W ⟨rfl, hb⟩; have h4 := keepc12 ⟨c0, c1, c2, c3, c4, c5, c6, c7, c8, c9, c10, c11, HK.out⟩ hb; clear c0 c1 c2 c3 c4 c5 c6 c7 c8 c9 c10 c11 HK hb; obtain ⟨c0, c1, c2, c3, c4, c5, c6, c7, c8, c9, c10, c11, HK'⟩ := h4; have HK := Lib.hid HK'; clear HK')))
    go_at_call 30
    refine (cplusN _ _ _ HZ.out _).mono ?_
    rintro e Wz ⟨rfl, hb⟩
    have h4 := keepc12 ⟨c0, c1, c2, c3, c4, c5, c6, c7, c8, c9, c10, c11, HK.out⟩ hb
    clear c0 c1 c2 c3 c4 c5 c6 c7 c8 c9 c10 c11 HK hb
    obtain ⟨c0, c1, c2, c3, c4, c5, c6, c7, c8, c9, c10, c11, HK'⟩ := h4
    have HK := Lib.hid HK'
    clear HK'
    have l0 : w.heap.size < Wz.heap.size := World.block_lt_of_cell? _ _ c0
    have l1 : w.heap.size + 1 < Wz.heap.size := World.block_lt_of_cell? _ _ c3
    have l2 : Wp.heap.size < Wz.heap.size := World.block_lt_of_cell? _ _ c6
    have l3 : Wq.heap.size < Wz.heap.size := World.block_lt_of_cell? _ _ c9
    go_wp2_with fail
    have hv := vat Wz z.k z.x z.s 24
    have h4 := keepc12 ⟨c0, c1, c2, c3, c4, c5, c6, c7, c8, c9, c10, c11, HK.out⟩ ((Below.refl _ _).alloc (Nat.le_refl _) (.cells #[.int .i64 z.k, .float .f64 (fb z.x), .string (bs z.s)] 24))
    clear c0 c1 c2 c3 c4 c5 c6 c7 c8 c9 c10 c11 HK
    obtain ⟨c0, c1, c2, c3, c4, c5, c6, c7, c8, c9, c10, c11, HK'⟩ := h4
    have HK := Lib.hid HK'
    clear HK'
    obtain ⟨c12, c13, c14⟩ := hv
    go_wp2_with (first | (go_at_call 20; ((with_reducible refine (cmayB ka xa sa MA.out _).mono ?_); rintro e W ⟨rfl, hb⟩; have h4 := keepc15 ⟨c0, c1, c2, c3, c4, c5, c6, c7, c8, c9, c10, c11, c12, c13, c14, HK.out⟩ hb; clear c0 c1 c2 c3 c4 c5 c6 c7 c8 c9 c10 c11 c12 c13 c14 HK hb; obtain ⟨c0, c1, c2, c3, c4, c5, c6, c7, c8, c9, c10, c11, c12, c13, c14, HK'⟩ := h4; have HK := Lib.hid HK'; clear HK')) | (go_at_call 11; ((with_reducible refine (first_any _ HK.out.laid).mono ?_); rintro e W ⟨rfl, hb⟩; have h4 := keepc15 ⟨c0, c1, c2, c3, c4, c5, c6, c7, c8, c9, c10, c11, c12, c13, c14, HK.out⟩ hb; clear c0 c1 c2 c3 c4 c5 c6 c7 c8 c9 c10 c11 c12 c13 c14 HK hb; obtain ⟨c0, c1, c2, c3, c4, c5, c6, c7, c8, c9, c10, c11, c12, c13, c14, HK'⟩ := h4; have HK := Lib.hid HK'; clear HK')))
    go_ret
    exact ⟨rfl, HK.out.below⟩
end Go.Proofs.YtecgjhjglklcnaaDoor
