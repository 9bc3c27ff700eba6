/-
  The walk of DatumOrder. Written by a program (dlaw.py).
-/
import Derived.Test.YtecgjhjglklcnaaDoorD17
namespace Go.Proofs.YtecgjhjglklcnaaDoor
set_option maxRecDepth 100000
open Go.RowKit Go.Shelf Go.Sort
attribute [local go_sem] bs_size bs_get bs_toList frombits tobits run_store_float
set_option maxHeartbeats 2000000 in
theorem order_l1 (ka : Int) (xa : UInt64) (sa : List UInt8) (kb : Int) (xb : UInt64) (sb : List UInt8) (kc : Int) (xc : UInt64) (sc : List UInt8) (w : World) (hT : Laid w) (HA : Hid (decide (sa.length ≤ 2000) = false)) : Calls Tryd.prog 8 #[VA ka xa sa, VA kb xb sb, VA kc xc sc] w fun e w' => e = .returned (.bool true) ∧ Below w.heap.size w w' := by
  unfold VA
  have HK : Hid (Kp w (((w.alloc (.cells #[.int .i64 ka, .float .f64 (fb xa), .string (bs sa)] 24)).alloc (.cells #[.int .i64 kb, .float .f64 (fb xb), .string (bs sb)] 24)).alloc (.cells #[.int .i64 kc, .float .f64 (fb xc), .string (bs sc)] 24))) := (((Kp.start hT).alloc _).alloc _).alloc _
  clear hT
  obtain ⟨c0, c1, c2, c3, c4, c5, c6, c7, c8⟩ := vat3 w ka xa sa kb xb sb kc xc sc 24 rfl
  go_enter Tryd.func8, Tryd.ntmps8
  go_wp2_with (first | (go_at_call 11; ((with_reducible refine (first_any _ HK.out.laid).mono ?_); rintro e W ⟨rfl, hb⟩; have h4 := keepc9 ⟨c0, c1, c2, c3, c4, c5, c6, c7, c8, HK.out⟩ hb; clear c0 c1 c2 c3 c4 c5 c6 c7 c8 HK hb; obtain ⟨c0, c1, c2, c3, c4, c5, c6, c7, c8, HK'⟩ := h4; have HK := Lib.hid HK'; clear HK')))
  go_at_call 12
  refine (csmall HA.out _).mono ?_
  rintro e W ⟨rfl, hb⟩
  have h4 := keepc9 ⟨c0, c1, c2, c3, c4, c5, c6, c7, c8, HK.out⟩ hb
  clear c0 c1 c2 c3 c4 c5 c6 c7 c8 HK hb
  obtain ⟨c0, c1, c2, c3, c4, c5, c6, c7, c8, HK'⟩ := h4
  have HK := Lib.hid HK'
  clear HK'
  go_wp2_with (first | (go_at_call 11; ((with_reducible refine (first_any _ HK.out.laid).mono ?_); rintro e W ⟨rfl, hb⟩; have h4 := keepc9 ⟨c0, c1, c2, c3, c4, c5, c6, c7, c8, HK.out⟩ hb; clear c0 c1 c2 c3 c4 c5 c6 c7 c8 HK hb; obtain ⟨c0, c1, c2, c3, c4, c5, c6, c7, c8, HK'⟩ := h4; have HK := Lib.hid HK'; clear HK')))
  go_ret
  exact ⟨rfl, HK.out.below⟩
set_option maxHeartbeats 2000000 in
theorem order_l2 (ka : Int) (xa : UInt64) (sa : List UInt8) (kb : Int) (xb : UInt64) (sb : List UInt8) (kc : Int) (xc : UInt64) (sc : List UInt8) (w : World) (hT : Laid w) (HA : Hid (decide (sa.length ≤ 2000) = true)) (HB : Hid (decide (sb.length ≤ 2000) = false)) : Calls Tryd.prog 8 #[VA ka xa sa, VA kb xb sb, VA kc xc sc] w fun e w' => e = .returned (.bool true) ∧ Below w.heap.size w w' := by
  unfold VA
  have HK : Hid (Kp w (((w.alloc (.cells #[.int .i64 ka, .float .f64 (fb xa), .string (bs sa)] 24)).alloc (.cells #[.int .i64 kb, .float .f64 (fb xb), .string (bs sb)] 24)).alloc (.cells #[.int .i64 kc, .float .f64 (fb xc), .string (bs sc)] 24))) := (((Kp.start hT).alloc _).alloc _).alloc _
  clear hT
  obtain ⟨c0, c1, c2, c3, c4, c5, c6, c7, c8⟩ := vat3 w ka xa sa kb xb sb kc xc sc 24 rfl
  go_enter Tryd.func8, Tryd.ntmps8
  go_wp2_with (first | (go_at_call 11; ((with_reducible refine (first_any _ HK.out.laid).mono ?_); rintro e W ⟨rfl, hb⟩; have h4 := keepc9 ⟨c0, c1, c2, c3, c4, c5, c6, c7, c8, HK.out⟩ hb; clear c0 c1 c2 c3 c4 c5 c6 c7 c8 HK hb; obtain ⟨c0, c1, c2, c3, c4, c5, c6, c7, c8, HK'⟩ := h4; have HK := Lib.hid HK'; clear HK')))
  go_at_call 12
  refine (csmall HA.out _).mono ?_
  rintro e W ⟨rfl, hb⟩
  have h4 := keepc9 ⟨c0, c1, c2, c3, c4, c5, c6, c7, c8, HK.out⟩ hb
  clear c0 c1 c2 c3 c4 c5 c6 c7 c8 HK hb
  obtain ⟨c0, c1, c2, c3, c4, c5, c6, c7, c8, HK'⟩ := h4
  have HK := Lib.hid HK'
  clear HK'
  go_wp2_with fail
  go_at_call 12
  refine (csmall HB.out _).mono ?_
  rintro e W ⟨rfl, hb⟩
  have h4 := keepc9 ⟨c0, c1, c2, c3, c4, c5, c6, c7, c8, HK.out⟩ hb
  clear c0 c1 c2 c3 c4 c5 c6 c7 c8 HK hb
  obtain ⟨c0, c1, c2, c3, c4, c5, c6, c7, c8, HK'⟩ := h4
  have HK := Lib.hid HK'
  clear HK'
  go_wp2_with (first | (go_at_call 11; ((with_reducible refine (first_any _ HK.out.laid).mono ?_); rintro e W ⟨rfl, hb⟩; have h4 := keepc9 ⟨c0, c1, c2, c3, c4, c5, c6, c7, c8, HK.out⟩ hb; clear c0 c1 c2 c3 c4 c5 c6 c7 c8 HK hb; obtain ⟨c0, c1, c2, c3, c4, c5, c6, c7, c8, HK'⟩ := h4; have HK := Lib.hid HK'; clear HK')))
  go_ret
  exact ⟨rfl, HK.out.below⟩
set_option maxHeartbeats 2000000 in
theorem order_l3 (ka : Int) (xa : UInt64) (sa : List UInt8) (kb : Int) (xb : UInt64) (sb : List UInt8) (kc : Int) (xc : UInt64) (sc : List UInt8) (w : World) (hT : Laid w) (HA : Hid (decide (sa.length ≤ 2000) = true)) (HB : Hid (decide (sb.length ≤ 2000) = true)) (HC : Hid (decide (sc.length ≤ 2000) = false)) : Calls Tryd.prog 8 #[VA ka xa sa, VA kb xb sb, VA kc xc sc] w fun e w' => e = .returned (.bool true) ∧ Below w.heap.size w w' := by
  unfold VA
  have HK : Hid (Kp w (((w.alloc (.cells #[.int .i64 ka, .float .f64 (fb xa), .string (bs sa)] 24)).alloc (.cells #[.int .i64 kb, .float .f64 (fb xb), .string (bs sb)] 24)).alloc (.cells #[.int .i64 kc, .float .f64 (fb xc), .string (bs sc)] 24))) := (((Kp.start hT).alloc _).alloc _).alloc _
  clear hT
  obtain ⟨c0, c1, c2, c3, c4, c5, c6, c7, c8⟩ := vat3 w ka xa sa kb xb sb kc xc sc 24 rfl
  go_enter Tryd.func8, Tryd.ntmps8
  go_wp2_with (first | (go_at_call 11; ((with_reducible refine (first_any _ HK.out.laid).mono ?_); rintro e W ⟨rfl, hb⟩; have h4 := keepc9 ⟨c0, c1, c2, c3, c4, c5, c6, c7, c8, HK.out⟩ hb; clear c0 c1 c2 c3 c4 c5 c6 c7 c8 HK hb; obtain ⟨c0, c1, c2, c3, c4, c5, c6, c7, c8, HK'⟩ := h4; have HK := Lib.hid HK'; clear HK')))
  go_at_call 12
  refine (csmall HA.out _).mono ?_
  rintro e W ⟨rfl, hb⟩
  have h4 := keepc9 ⟨c0, c1, c2, c3, c4, c5, c6, c7, c8, HK.out⟩ hb
  clear c0 c1 c2 c3 c4 c5 c6 c7 c8 HK hb
  obtain ⟨c0, c1, c2, c3, c4, c5, c6, c7, c8, HK'⟩ := h4
  have HK := Lib.hid HK'
  clear HK'
  go_wp2_with fail
  go_at_call 12
  refine (csmall HB.out _).mono ?_
  rintro e W ⟨rfl, hb⟩
  have h4 := keepc9 ⟨c0, c1, c2, c3, c4, c5, c6, c7, c8, HK.out⟩ hb
  clear c0 c1 c2 c3 c4 c5 c6 c7 c8 HK hb
  obtain ⟨c0, c1, c2, c3, c4, c5, c6, c7, c8, HK'⟩ := h4
  have HK := Lib.hid HK'
  clear HK'
  go_wp2_with fail
  go_at_call 12
  refine (csmall HC.out _).mono ?_
  rintro e W ⟨rfl, hb⟩
  have h4 := keepc9 ⟨c0, c1, c2, c3, c4, c5, c6, c7, c8, HK.out⟩ hb
  clear c0 c1 c2 c3 c4 c5 c6 c7 c8 HK hb
  obtain ⟨c0, c1, c2, c3, c4, c5, c6, c7, c8, HK'⟩ := h4
  have HK := Lib.hid HK'
  clear HK'
  go_wp2_with (first | (go_at_call 11; ((with_reducible refine (first_any _ HK.out.laid).mono ?_); rintro e W ⟨rfl, hb⟩; have h4 := keepc9 ⟨c0, c1, c2, c3, c4, c5, c6, c7, c8, HK.out⟩ hb; clear c0 c1 c2 c3 c4 c5 c6 c7 c8 HK hb; obtain ⟨c0, c1, c2, c3, c4, c5, c6, c7, c8, HK'⟩ := h4; have HK := Lib.hid HK'; clear HK')))
  go_ret
  exact ⟨rfl, HK.out.below⟩
set_option maxHeartbeats 2000000 in
theorem order_m1 (ka : Int) (xa : UInt64) (sa : List UInt8) (kb : Int) (xb : UInt64) (sb : List UInt8) (kc : Int) (xc : UInt64) (sc : List UInt8) (w : World) (hT : Laid w) (HA : Hid (decide (sa.length ≤ 2000) = true)) (HB : Hid (decide (sb.length ≤ 2000) = true)) (HC : Hid (decide (sc.length ≤ 2000) = true)) (MA : Hid (mayB ka xa sa = false)) : Calls Tryd.prog 8 #[VA ka xa sa, VA kb xb sb, VA kc xc sc] w fun e w' => e = .returned (.bool true) ∧ Below w.heap.size w w' := by
  unfold VA
  have HK : Hid (Kp w (((w.alloc (.cells #[.int .i64 ka, .float .f64 (fb xa), .string (bs sa)] 24)).alloc (.cells #[.int .i64 kb, .float .f64 (fb xb), .string (bs sb)] 24)).alloc (.cells #[.int .i64 kc, .float .f64 (fb xc), .string (bs sc)] 24))) := (((Kp.start hT).alloc _).alloc _).alloc _
  clear hT
  obtain ⟨c0, c1, c2, c3, c4, c5, c6, c7, c8⟩ := vat3 w ka xa sa kb xb sb kc xc sc 24 rfl
  go_enter Tryd.func8, Tryd.ntmps8
  go_wp2_with (first | (go_at_call 11; ((with_reducible refine (first_any _ HK.out.laid).mono ?_); rintro e W ⟨rfl, hb⟩; have h4 := keepc9 ⟨c0, c1, c2, c3, c4, c5, c6, c7, c8, HK.out⟩ hb; clear c0 c1 c2 c3 c4 c5 c6 c7 c8 HK hb; obtain ⟨c0, c1, c2, c3, c4, c5, c6, c7, c8, HK'⟩ := h4; have HK := Lib.hid HK'; clear HK')))
  go_at_call 12
  refine (csmall HA.out _).mono ?_
  rintro e W ⟨rfl, hb⟩
  have h4 := keepc9 ⟨c0, c1, c2, c3, c4, c5, c6, c7, c8, HK.out⟩ hb
  clear c0 c1 c2 c3 c4 c5 c6 c7 c8 HK hb
  obtain ⟨c0, c1, c2, c3, c4, c5, c6, c7, c8, HK'⟩ := h4
  have HK := Lib.hid HK'
  clear HK'
  go_wp2_with fail
  go_at_call 12
  refine (csmall HB.out _).mono ?_
  rintro e W ⟨rfl, hb⟩
  have h4 := keepc9 ⟨c0, c1, c2, c3, c4, c5, c6, c7, c8, HK.out⟩ hb
  clear c0 c1 c2 c3 c4 c5 c6 c7 c8 HK hb
  obtain ⟨c0, c1, c2, c3, c4, c5, c6, c7, c8, HK'⟩ := h4
  have HK := Lib.hid HK'
  clear HK'
  go_wp2_with fail
  go_at_call 12
  refine (csmall HC.out _).mono ?_
  rintro e W ⟨rfl, hb⟩
  have h4 := keepc9 ⟨c0, c1, c2, c3, c4, c5, c6, c7, c8, HK.out⟩ hb
  clear c0 c1 c2 c3 c4 c5 c6 c7 c8 HK hb
  obtain ⟨c0, c1, c2, c3, c4, c5, c6, c7, c8, HK'⟩ := h4
  have HK := Lib.hid HK'
  clear HK'
  go_wp2_with fail
  go_at_call 20
  refine (cmayB ka xa sa MA.out _).mono ?_
  rintro e W ⟨rfl, hb⟩
  have h4 := keepc9 ⟨c0, c1, c2, c3, c4, c5, c6, c7, c8, HK.out⟩ hb
  clear c0 c1 c2 c3 c4 c5 c6 c7 c8 HK hb
  obtain ⟨c0, c1, c2, c3, c4, c5, c6, c7, c8, HK'⟩ := h4
  have HK := Lib.hid HK'
  clear HK'
  go_wp2_with (first | (go_at_call 11; ((with_reducible refine (first_any _ HK.out.laid).mono ?_); rintro e W ⟨rfl, hb⟩; have h4 := keepc9 ⟨c0, c1, c2, c3, c4, c5, c6, c7, c8, HK.out⟩ hb; clear c0 c1 c2 c3 c4 c5 c6 c7 c8 HK hb; obtain ⟨c0, c1, c2, c3, c4, c5, c6, c7, c8, HK'⟩ := h4; have HK := Lib.hid HK'; clear HK')))
  go_ret
  exact ⟨rfl, HK.out.below⟩
set_option maxHeartbeats 2000000 in
theorem order_m2 (ka : Int) (xa : UInt64) (sa : List UInt8) (kb : Int) (xb : UInt64) (sb : List UInt8) (kc : Int) (xc : UInt64) (sc : List UInt8) (w : World) (hT : Laid w) (HA : Hid (decide (sa.length ≤ 2000) = true)) (HB : Hid (decide (sb.length ≤ 2000) = true)) (HC : Hid (decide (sc.length ≤ 2000) = true)) (MA : Hid (mayB ka xa sa = true)) (MB : Hid (mayB kb xb sb = false)) : Calls Tryd.prog 8 #[VA ka xa sa, VA kb xb sb, VA kc xc sc] w fun e w' => e = .returned (.bool true) ∧ Below w.heap.size w w' := by
  unfold VA
  have HK : Hid (Kp w (((w.alloc (.cells #[.int .i64 ka, .float .f64 (fb xa), .string (bs sa)] 24)).alloc (.cells #[.int .i64 kb, .float .f64 (fb xb), .string (bs sb)] 24)).alloc (.cells #[.int .i64 kc, .float .f64 (fb xc), .string (bs sc)] 24))) := (((Kp.start hT).alloc _).alloc _).alloc _
  clear hT
  obtain ⟨c0, c1, c2, c3, c4, c5, c6, c7, c8⟩ := vat3 w ka xa sa kb xb sb kc xc sc 24 rfl
  go_enter Tryd.func8, Tryd.ntmps8
  go_wp2_with (first | (go_at_call 11; ((with_reducible refine (first_any _ HK.out.laid).mono ?_); rintro e W ⟨rfl, hb⟩; have h4 := keepc9 ⟨c0, c1, c2, c3, c4, c5, c6, c7, c8, HK.out⟩ hb; clear c0 c1 c2 c3 c4 c5 c6 c7 c8 HK hb; obtain ⟨c0, c1, c2, c3, c4, c5, c6, c7, c8, HK'⟩ := h4; have HK := Lib.hid HK'; clear HK')))
  go_at_call 12
  refine (csmall HA.out _).mono ?_
  rintro e W ⟨rfl, hb⟩
  have h4 := keepc9 ⟨c0, c1, c2, c3, c4, c5, c6, c7, c8, HK.out⟩ hb
  clear c0 c1 c2 c3 c4 c5 c6 c7 c8 HK hb
  obtain ⟨c0, c1, c2, c3, c4, c5, c6, c7, c8, HK'⟩ := h4
  have HK := Lib.hid HK'
  clear HK'
  go_wp2_with fail
  go_at_call 12
  refine (csmall HB.out _).mono ?_
  rintro e W ⟨rfl, hb⟩
  have h4 := keepc9 ⟨c0, c1, c2, c3, c4, c5, c6, c7, c8, HK.out⟩ hb
  clear c0 c1 c2 c3 c4 c5 c6 c7 c8 HK hb
  obtain ⟨c0, c1, c2, c3, c4, c5, c6, c7, c8, HK'⟩ := h4
  have HK := Lib.hid HK'
  clear HK'
  go_wp2_with fail
  go_at_call 12
  refine (csmall HC.out _).mono ?_
  rintro e W ⟨rfl, hb⟩
  have h4 := keepc9 ⟨c0, c1, c2, c3, c4, c5, c6, c7, c8, HK.out⟩ hb
  clear c0 c1 c2 c3 c4 c5 c6 c7 c8 HK hb
  obtain ⟨c0, c1, c2, c3, c4, c5, c6, c7, c8, HK'⟩ := h4
  have HK := Lib.hid HK'
  clear HK'
  go_wp2_with fail
  go_at_call 20
  refine (cmayB ka xa sa MA.out _).mono ?_
  rintro e W ⟨rfl, hb⟩
  have h4 := keepc9 ⟨c0, c1, c2, c3, c4, c5, c6, c7, c8, HK.out⟩ hb
  clear c0 c1 c2 c3 c4 c5 c6 c7 c8 HK hb
  obtain ⟨c0, c1, c2, c3, c4, c5, c6, c7, c8, HK'⟩ := h4
  have HK := Lib.hid HK'
  clear HK'
  go_wp2_with fail
  go_at_call 20
  refine (cmayB kb xb sb MB.out _).mono ?_
  rintro e W ⟨rfl, hb⟩
  have h4 := keepc9 ⟨c0, c1, c2, c3, c4, c5, c6, c7, c8, HK.out⟩ hb
  clear c0 c1 c2 c3 c4 c5 c6 c7 c8 HK hb
  obtain ⟨c0, c1, c2, c3, c4, c5, c6, c7, c8, HK'⟩ := h4
  have HK := Lib.hid HK'
  clear HK'
  go_wp2_with (first | (go_at_call 11; ((with_reducible refine (first_any _ HK.out.laid).mono ?_); rintro e W ⟨rfl, hb⟩; have h4 := keepc9 ⟨c0, c1, c2, c3, c4, c5, c6, c7, c8, HK.out⟩ hb; clear c0 c1 c2 c3 c4 c5 c6 c7 c8 HK hb; obtain ⟨c0, c1, c2, c3, c4, c5, c6, c7, c8, HK'⟩ := h4; have HK := Lib.hid HK'; clear HK')))
  go_ret
  exact ⟨rfl, HK.out.below⟩
set_option maxHeartbeats 2000000 in
theorem order_m3 (ka : Int) (xa : UInt64) (sa : List UInt8) (kb : Int) (xb : UInt64) (sb : List UInt8) (kc : Int) (xc : UInt64) (sc : List UInt8) (w : World) (hT : Laid w) (HA : Hid (decide (sa.length ≤ 2000) = true)) (HB : Hid (decide (sb.length ≤ 2000) = true)) (HC : Hid (decide (sc.length ≤ 2000) = true)) (MA : Hid (mayB ka xa sa = true)) (MB : Hid (mayB kb xb sb = true)) (MC : Hid (mayB kc xc sc = false)) : Calls Tryd.prog 8 #[VA ka xa sa, VA kb xb sb, VA kc xc sc] w fun e w' => e = .returned (.bool true) ∧ Below w.heap.size w w' := by
  unfold VA
  have HK : Hid (Kp w (((w.alloc (.cells #[.int .i64 ka, .float .f64 (fb xa), .string (bs sa)] 24)).alloc (.cells #[.int .i64 kb, .float .f64 (fb xb), .string (bs sb)] 24)).alloc (.cells #[.int .i64 kc, .float .f64 (fb xc), .string (bs sc)] 24))) := (((Kp.start hT).alloc _).alloc _).alloc _
  clear hT
  obtain ⟨c0, c1, c2, c3, c4, c5, c6, c7, c8⟩ := vat3 w ka xa sa kb xb sb kc xc sc 24 rfl
  go_enter Tryd.func8, Tryd.ntmps8
  go_wp2_with (first | (go_at_call 11; ((with_reducible refine (first_any _ HK.out.laid).mono ?_); rintro e W ⟨rfl, hb⟩; have h4 := keepc9 ⟨c0, c1, c2, c3, c4, c5, c6, c7, c8, HK.out⟩ hb; clear c0 c1 c2 c3 c4 c5 c6 c7 c8 HK hb; obtain ⟨c0, c1, c2, c3, c4, c5, c6, c7, c8, HK'⟩ := h4; have HK := Lib.hid HK'; clear HK')))
  go_at_call 12
  refine (csmall HA.out _).mono ?_
  rintro e W ⟨rfl, hb⟩
  have h4 := keepc9 ⟨c0, c1, c2, c3, c4, c5, c6, c7, c8, HK.out⟩ hb
  clear c0 c1 c2 c3 c4 c5 c6 c7 c8 HK hb
  obtain ⟨c0, c1, c2, c3, c4, c5, c6, c7, c8, HK'⟩ := h4
  have HK := Lib.hid HK'
  clear HK'
  go_wp2_with fail
  go_at_call 12
  refine (csmall HB.out _).mono ?_
  rintro e W ⟨rfl, hb⟩
  have h4 := keepc9 ⟨c0, c1, c2, c3, c4, c5, c6, c7, c8, HK.out⟩ hb
  clear c0 c1 c2 c3 c4 c5 c6 c7 c8 HK hb
  obtain ⟨c0, c1, c2, c3, c4, c5, c6, c7, c8, HK'⟩ := h4
  have HK := Lib.hid HK'
  clear HK'
  go_wp2_with fail
  go_at_call 12
  refine (csmall HC.out _).mono ?_
  rintro e W ⟨rfl, hb⟩
  have h4 := keepc9 ⟨c0, c1, c2, c3, c4, c5, c6, c7, c8, HK.out⟩ hb
  clear c0 c1 c2 c3 c4 c5 c6 c7 c8 HK hb
  obtain ⟨c0, c1, c2, c3, c4, c5, c6, c7, c8, HK'⟩ := h4
  have HK := Lib.hid HK'
  clear HK'
  go_wp2_with fail
  go_at_call 20
  refine (cmayB ka xa sa MA.out _).mono ?_
  rintro e W ⟨rfl, hb⟩
  have h4 := keepc9 ⟨c0, c1, c2, c3, c4, c5, c6, c7, c8, HK.out⟩ hb
  clear c0 c1 c2 c3 c4 c5 c6 c7 c8 HK hb
  obtain ⟨c0, c1, c2, c3, c4, c5, c6, c7, c8, HK'⟩ := h4
  have HK := Lib.hid HK'
  clear HK'
  go_wp2_with fail
  go_at_call 20
  refine (cmayB kb xb sb MB.out _).mono ?_
  rintro e W ⟨rfl, hb⟩
  have h4 := keepc9 ⟨c0, c1, c2, c3, c4, c5, c6, c7, c8, HK.out⟩ hb
  clear c0 c1 c2 c3 c4 c5 c6 c7 c8 HK hb
  obtain ⟨c0, c1, c2, c3, c4, c5, c6, c7, c8, HK'⟩ := h4
  have HK := Lib.hid HK'
  clear HK'
  go_wp2_with fail
  go_at_call 20
  refine (cmayB kc xc sc MC.out _).mono ?_
  rintro e W ⟨rfl, hb⟩
  have h4 := keepc9 ⟨c0, c1, c2, c3, c4, c5, c6, c7, c8, HK.out⟩ hb
  clear c0 c1 c2 c3 c4 c5 c6 c7 c8 HK hb
  obtain ⟨c0, c1, c2, c3, c4, c5, c6, c7, c8, HK'⟩ := h4
  have HK := Lib.hid HK'
  clear HK'
  go_wp2_with (first | (go_at_call 11; ((with_reducible refine (first_any _ HK.out.laid).mono ?_); rintro e W ⟨rfl, hb⟩; have h4 := keepc9 ⟨c0, c1, c2, c3, c4, c5, c6, c7, c8, HK.out⟩ hb; clear c0 c1 c2 c3 c4 c5 c6 c7 c8 HK hb; obtain ⟨c0, c1, c2, c3, c4, c5, c6, c7, c8, HK'⟩ := h4; have HK := Lib.hid HK'; clear HK')))
  go_ret
  exact ⟨rfl, HK.out.below⟩
set_option maxHeartbeats 4000000 in
theorem order_main (ka : Int) (xa : UInt64) (sa : List UInt8) (kb : Int) (xb : UInt64) (sb : List UInt8) (kc : Int) (xc : UInt64) (sc : List UInt8) (w : World) (hT : Laid w) (HA : Hid (decide (sa.length ≤ 2000) = true)) (HB : Hid (decide (sb.length ≤ 2000) = true)) (HC : Hid (decide (sc.length ≤ 2000) = true)) (MA : Hid (mayB ka xa sa = true)) (MB : Hid (mayB kb xb sb = true)) (MC : Hid (mayB kc xc sc = true)) (ab bc ac : Int)
    (C1 : Hid (cmpV ka xa sa kb xb sb = ab)) (C2 : Hid (cmpV kb xb sb kc xc sc = bc)) (C3 : Hid (cmpV ka xa sa kc xc sc = ac)) (C4 : Hid (cmpV kb xb sb ka xa sa = -ab)) (C5 : Hid (cmpV ka xa sa ka xa sa = 0))
    (b1 : -1 ≤ ab) (b2 : ab ≤ 1) (u1 u2 u3 q : Bool) (d1 : decide (ab ≤ 0) = u1) (d2 : decide (bc ≤ 0) = u2) (d3 : decide (ac ≤ 0) = u3) (thr : (!(u1 && u2) || u3) = true) (dq : (ab == 0) = q)
    (SB : Hid (sameB ka xa sa kb xb sb = q)) (ta tb : List UInt8) (TA : Hid (textOf ka xa sa = ta)) (TB : Hid (textOf kb xb sb = tb)) (tq : (ta == tb) = q) : Calls Tryd.prog 8 #[VA ka xa sa, VA kb xb sb, VA kc xc sc] w fun e w' => e = .returned (.bool true) ∧ Below w.heap.size w w' := by
  unfold VA
  have HK : Hid (Kp w (((w.alloc (.cells #[.int .i64 ka, .float .f64 (fb xa), .string (bs sa)] 24)).alloc (.cells #[.int .i64 kb, .float .f64 (fb xb), .string (bs sb)] 24)).alloc (.cells #[.int .i64 kc, .float .f64 (fb xc), .string (bs sc)] 24))) := (((Kp.start hT).alloc _).alloc _).alloc _
  clear hT
  obtain ⟨c0, c1, c2, c3, c4, c5, c6, c7, c8⟩ := vat3 w ka xa sa kb xb sb kc xc sc 24 rfl
  cases u1
  case' true => cases u2
  case' true.true => cases u3
  case' true.true.false => exact absurd thr (by decide)
  all_goals
    clear thr
    go_enter Tryd.func8, Tryd.ntmps8
    go_wp2_with (first | (go_at_call 11; ((with_reducible refine (first_any _ HK.out.laid).mono ?_); rintro e W ⟨rfl, hb⟩; have h4 := keepc9 ⟨c0, c1, c2, c3, c4, c5, c6, c7, c8, HK.out⟩ hb; clear c0 c1 c2 c3 c4 c5 c6 c7 c8 HK hb; obtain ⟨c0, c1, c2, c3, c4, c5, c6, c7, c8, HK'⟩ := h4; have HK := Lib.hid HK'; clear HK')))
    go_at_call 12
    refine (csmall HA.out _).mono ?_
    rintro e W ⟨rfl, hb⟩
    have h4 := keepc9 ⟨c0, c1, c2, c3, c4, c5, c6, c7, c8, HK.out⟩ hb
    clear c0 c1 c2 c3 c4 c5 c6 c7 c8 HK hb
    obtain ⟨c0, c1, c2, c3, c4, c5, c6, c7, c8, HK'⟩ := h4
    have HK := Lib.hid HK'
    clear HK'
    go_wp2_with fail
    go_at_call 12
    refine (csmall HB.out _).mono ?_
    rintro e W ⟨rfl, hb⟩
    have h4 := keepc9 ⟨c0, c1, c2, c3, c4, c5, c6, c7, c8, HK.out⟩ hb
    clear c0 c1 c2 c3 c4 c5 c6 c7 c8 HK hb
    obtain ⟨c0, c1, c2, c3, c4, c5, c6, c7, c8, HK'⟩ := h4
    have HK := Lib.hid HK'
    clear HK'
    go_wp2_with fail
    go_at_call 12
    refine (csmall HC.out _).mono ?_
    rintro e W ⟨rfl, hb⟩
    have h4 := keepc9 ⟨c0, c1, c2, c3, c4, c5, c6, c7, c8, HK.out⟩ hb
    clear c0 c1 c2 c3 c4 c5 c6 c7 c8 HK hb
    obtain ⟨c0, c1, c2, c3, c4, c5, c6, c7, c8, HK'⟩ := h4
    have HK := Lib.hid HK'
    clear HK'
    go_wp2_with fail
    go_at_call 20
    refine (cmayB ka xa sa MA.out _).mono ?_
    rintro e W ⟨rfl, hb⟩
    have h4 := keepc9 ⟨c0, c1, c2, c3, c4, c5, c6, c7, c8, HK.out⟩ hb
    clear c0 c1 c2 c3 c4 c5 c6 c7 c8 HK hb
    obtain ⟨c0, c1, c2, c3, c4, c5, c6, c7, c8, HK'⟩ := h4
    have HK := Lib.hid HK'
    clear HK'
    go_wp2_with fail
    go_at_call 20
    refine (cmayB kb xb sb MB.out _).mono ?_
    rintro e W ⟨rfl, hb⟩
    have h4 := keepc9 ⟨c0, c1, c2, c3, c4, c5, c6, c7, c8, HK.out⟩ hb
    clear c0 c1 c2 c3 c4 c5 c6 c7 c8 HK hb
    obtain ⟨c0, c1, c2, c3, c4, c5, c6, c7, c8, HK'⟩ := h4
    have HK := Lib.hid HK'
    clear HK'
    go_wp2_with fail
    go_at_call 20
    refine (cmayB kc xc sc MC.out _).mono ?_
    rintro e W ⟨rfl, hb⟩
    have h4 := keepc9 ⟨c0, c1, c2, c3, c4, c5, c6, c7, c8, HK.out⟩ hb
    clear c0 c1 c2 c3 c4 c5 c6 c7 c8 HK hb
    obtain ⟨c0, c1, c2, c3, c4, c5, c6, c7, c8, HK'⟩ := h4
    have HK := Lib.hid HK'
    clear HK'
    go_wp2_with fail

    go_region_held3 (fun W => W.cell? ⟨w.heap.size, 0, none⟩ = some (.int .i64 ka) ∧ W.cell? ⟨w.heap.size, 1, none⟩ = some (.float .f64 (fb xa)) ∧ W.cell? ⟨w.heap.size, 2, none⟩ = some (.string (bs sa)) ∧ W.cell? ⟨w.heap.size + 1, 0, none⟩ = some (.int .i64 kb) ∧ W.cell? ⟨w.heap.size + 1, 1, none⟩ = some (.float .f64 (fb xb)) ∧ W.cell? ⟨w.heap.size + 1, 2, none⟩ = some (.string (bs sb)) ∧ W.cell? ⟨w.heap.size + 1 + 1, 0, none⟩ = some (.int .i64 kc) ∧ W.cell? ⟨w.heap.size + 1 + 1, 1, none⟩ = some (.float .f64 (fb xc)) ∧ W.cell? ⟨w.heap.size + 1 + 1, 2, none⟩ = some (.string (bs sc)) ∧ Kp w W) (first | assumption | exact keepcd9 ⟨c0, c1, c2, c3, c4, c5, c6, c7, c8, HK.out⟩ | exact keepc9 (by assumption) hb) ((first | (go_at_call 32; with_reducible (refine (ccmp ka xa sa kb xb sb C1.out _).mono ?_); rintro e W ⟨rfl, hb⟩) | (go_at_call 32; with_reducible (refine (ccmp kb xb sb kc xc sc C2.out _).mono ?_); rintro e W ⟨rfl, hb⟩) | (go_at_call 32; with_reducible (refine (ccmp ka xa sa kc xc sc C3.out _).mono ?_); rintro e W ⟨rfl, hb⟩)))
    all_goals
      rename_i hH
      clear c0 c1 c2 c3 c4 c5 c6 c7 c8 HK
      obtain ⟨c0, c1, c2, c3, c4, c5, c6, c7, c8, HK'⟩ := hH
      have HK := Lib.hid HK'
      clear HK'
      go_wp2_with (first | (go_at_call 32; ((with_reducible refine (ccmp kb xb sb ka xa sa C4.out _).mono ?_); rintro e W ⟨rfl, hb⟩; have h4 := keepc9 ⟨c0, c1, c2, c3, c4, c5, c6, c7, c8, HK.out⟩ hb; clear c0 c1 c2 c3 c4 c5 c6 c7 c8 HK hb; obtain ⟨c0, c1, c2, c3, c4, c5, c6, c7, c8, HK'⟩ := h4; have HK := Lib.hid HK'; clear HK')) | (go_at_call 32; ((with_reducible refine (ccmp ka xa sa ka xa sa C5.out _).mono ?_); rintro e W ⟨rfl, hb⟩; have h4 := keepc9 ⟨c0, c1, c2, c3, c4, c5, c6, c7, c8, HK.out⟩ hb; clear c0 c1 c2 c3 c4 c5 c6 c7 c8 HK hb; obtain ⟨c0, c1, c2, c3, c4, c5, c6, c7, c8, HK'⟩ := h4; have HK := Lib.hid HK'; clear HK')))
      go_region_held3 (fun W => W.cell? ⟨w.heap.size, 0, none⟩ = some (.int .i64 ka) ∧ W.cell? ⟨w.heap.size, 1, none⟩ = some (.float .f64 (fb xa)) ∧ W.cell? ⟨w.heap.size, 2, none⟩ = some (.string (bs sa)) ∧ W.cell? ⟨w.heap.size + 1, 0, none⟩ = some (.int .i64 kb) ∧ W.cell? ⟨w.heap.size + 1, 1, none⟩ = some (.float .f64 (fb xb)) ∧ W.cell? ⟨w.heap.size + 1, 2, none⟩ = some (.string (bs sb)) ∧ W.cell? ⟨w.heap.size + 1 + 1, 0, none⟩ = some (.int .i64 kc) ∧ W.cell? ⟨w.heap.size + 1 + 1, 1, none⟩ = some (.float .f64 (fb xc)) ∧ W.cell? ⟨w.heap.size + 1 + 1, 2, none⟩ = some (.string (bs sc)) ∧ Kp w W) (first | assumption | exact keepcd9 ⟨c0, c1, c2, c3, c4, c5, c6, c7, c8, HK.out⟩ | exact keepc9 (by assumption) hb) ((first | (go_at_call 34; with_reducible (refine (csame ka xa sa kb xb sb SB.out _).mono ?_); rintro e W ⟨rfl, hb⟩) | (go_at_call 28; with_reducible (refine (cprintA ka xa sa TA.out _ ((by assumption : _ ∧ _ ∧ _ ∧ _ ∧ _ ∧ _ ∧ _ ∧ _ ∧ _ ∧ Kp w _).2.2.2.2.2.2.2.2.2.laid)).mono ?_); rintro e W ⟨rfl, hb⟩) | (go_at_call 28; with_reducible (refine (cprintA kb xb sb TB.out _ ((by assumption : _ ∧ _ ∧ _ ∧ _ ∧ _ ∧ _ ∧ _ ∧ _ ∧ _ ∧ Kp w _).2.2.2.2.2.2.2.2.2.laid)).mono ?_); rintro e W ⟨rfl, hb⟩)))
      all_goals
        rename_i hH
        clear c0 c1 c2 c3 c4 c5 c6 c7 c8 HK
        obtain ⟨c0, c1, c2, c3, c4, c5, c6, c7, c8, HK'⟩ := hH
        have HK := Lib.hid HK'
        clear HK'
        go_wp2_with (first | (go_at_call 11; ((with_reducible refine (first_any _ HK.out.laid).mono ?_); rintro e W ⟨rfl, hb⟩; have h4 := keepc9 ⟨c0, c1, c2, c3, c4, c5, c6, c7, c8, HK.out⟩ hb; clear c0 c1 c2 c3 c4 c5 c6 c7 c8 HK hb; obtain ⟨c0, c1, c2, c3, c4, c5, c6, c7, c8, HK'⟩ := h4; have HK := Lib.hid HK'; clear HK')))
        go_ret
        exact ⟨rfl, HK.out.below⟩
theorem order_any (ka : Int) (xa : UInt64) (sa : List UInt8) (kb : Int) (xb : UInt64) (sb : List UInt8) (kc : Int) (xc : UInt64) (sc : List UInt8) (w : World) (hT : Laid w) : Calls Tryd.prog 8 #[VA ka xa sa, VA kb xb sb, VA kc xc sc] w fun e w' => e = .returned (.bool true) ∧ Below w.heap.size w w' := by
  cases h1 : decide (sa.length ≤ 2000) with
  | false => exact order_l1 _ _ _ _ _ _ _ _ _ w hT h1
  | true =>
  cases h2 : decide (sb.length ≤ 2000) with
  | false => exact order_l2 _ _ _ _ _ _ _ _ _ w hT h1 h2
  | true =>
  cases h3 : decide (sc.length ≤ 2000) with
  | false => exact order_l3 _ _ _ _ _ _ _ _ _ w hT h1 h2 h3
  | true =>
  cases m1 : mayB ka xa sa with
  | false => exact order_m1 _ _ _ _ _ _ _ _ _ w hT h1 h2 h3 m1
  | true =>
  cases m2 : mayB kb xb sb with
  | false => exact order_m2 _ _ _ _ _ _ _ _ _ w hT h1 h2 h3 m1 m2
  | true =>
  cases m3 : mayB kc xc sc with
  | false => exact order_m3 _ _ _ _ _ _ _ _ _ w hT h1 h2 h3 m1 m2 m3
  | true =>
  have hc := cmpV_cases ka xa sa kb xb sb
  refine order_main _ _ _ _ _ _ _ _ _ w hT h1 h2 h3 m1 m2 m3 _ _ _ rfl rfl rfl (cmpV_turn m1 m2) (cmpV_self m1) (by omega) (by omega) _ _ _ _ rfl rfl rfl ?_ rfl (same_cmp m1 m2) _ _ rfl rfl (one_text m1 m2)
  cases e1 : decide (cmpV ka xa sa kb xb sb ≤ 0) with
  | false => rfl
  | true =>
    cases e2 : decide (cmpV kb xb sb kc xc sc ≤ 0) with
    | false => rfl
    | true => rw [decide_eq_true (cmpV_through m1 m2 m3 (of_decide_eq_true e1) (of_decide_eq_true e2))]; rfl
end Go.Proofs.YtecgjhjglklcnaaDoor
