/-
  The walk of DatumAdds. Written by a program (dlaw.py).
-/
import Derived.Test.YtecgjhjglklcnaaDoorD24
namespace Go.Proofs.YtecgjhjglklcnaaDoor
set_option maxRecDepth 100000
open Go.RowKit Go.Shelf Go.Sort
attribute [local go_sem] bs_size bs_get bs_toList frombits tobits run_store_float
set_option maxHeartbeats 4000000 in
theorem adds_3 (ka : Int) (xa : UInt64) (sa : List UInt8) (kb : Int) (xb : UInt64) (sb : List UInt8) (w : World) (hT : Laid w) (HA : Hid (decide (sa.length ≤ 2000) = true)) (HB : Hid (decide (sb.length ≤ 2000) = true)) (mB u2 : Bool) (MA : Hid (mayB ka xa sa = true)) (MB : Hid (mayB kb xb sb = mB)) (hu1 : (ka != 2) = true) (hu2 : (kb != 2) = u2) (p : PV) (HP : Hid (plusD ka xa sa kb xb sb = p)) (HQ : Hid (plusD kb xb sb ka xa sa = p)) (hpe : (p.e == 0) = (true && (mB && (true && u2)))) (HZ : Hid (plusD ka xa sa 0 0 [] = ⟨1, 0, [], 0⟩)) (hk1 : (ka != 1) = false) (HVF : Hid (∀ W, Calls Tryd.prog 13 #[.agg #[.int .i64 1, .float .f64 (fb 0), .string (bs [])], .agg #[.int .i64 ka, .float .f64 (fb xa), .string (bs sa)]] W fun e w' => e = .returned (.bool false) ∧ Below W.heap.size W w')) (hf0 : (FloatKind.f64.format.order (fb xa) 0 == some .eq) = true) : Calls Tryd.prog 6 #[VA ka xa sa, VA kb xb sb] w fun e w' => e = .returned (.bool true) ∧ Below w.heap.size w w' := by
  unfold VA
  have HK : Hid (Kp w ((w.alloc (.cells #[.int .i64 ka, .float .f64 (fb xa), .string (bs sa)] 24)).alloc (.cells #[.int .i64 kb, .float .f64 (fb xb), .string (bs sb)] 24))) := ((Kp.start hT).alloc _).alloc _
  clear hT
  obtain ⟨c0, c1, c2, c3, c4, c5⟩ := vat2 w ka xa sa kb xb sb 24 rfl
  cases mB
  case' true => cases u2
  all_goals
    have hk1 : (ka != 1) = false := hk1
    simp only [Bool.and_true, Bool.and_false, Bool.true_and, Bool.false_and] at hpe
    go_enter Tryd.func6, Tryd.ntmps6
    go_wp2_with (first | (go_at_call 11; ((with_reducible refine (first_any _ HK.out.laid).mono ?_); rintro e W ⟨rfl, hb⟩; have h4 := keepc6 ⟨c0, c1, c2, c3, c4, c5, HK.out⟩ hb; clear c0 c1 c2 c3 c4 c5 HK hb; obtain ⟨c0, c1, c2, c3, c4, c5, HK'⟩ := h4; have HK := Lib.hid HK'; clear HK')))
    go_at_call 12
    refine (csmall HA.out _).mono ?_
    rintro e W ⟨rfl, hb⟩
    have h4 := keepc6 ⟨c0, c1, c2, c3, c4, c5, HK.out⟩ hb
    clear c0 c1 c2 c3 c4 c5 HK hb
    obtain ⟨c0, c1, c2, c3, c4, c5, HK'⟩ := h4
    have HK := Lib.hid HK'
    clear HK'
    go_wp2_with fail
    go_at_call 12
    refine (csmall HB.out _).mono ?_
    rintro e W ⟨rfl, hb⟩
    have h4 := keepc6 ⟨c0, c1, c2, c3, c4, c5, HK.out⟩ hb
    clear c0 c1 c2 c3 c4 c5 HK hb
    obtain ⟨c0, c1, c2, c3, c4, c5, HK'⟩ := h4
    have HK := Lib.hid HK'
    clear HK'
    go_wp2_with fail
    go_at_call 30
    refine (cplusA _ _ _ _ _ _ HP.out _).mono ?_
    rintro e Wp ⟨rfl, hb⟩
    have h4 := keepc6 ⟨c0, c1, c2, c3, c4, c5, HK.out⟩ hb
    clear c0 c1 c2 c3 c4 c5 HK hb
    obtain ⟨c0, c1, c2, c3, c4, c5, HK'⟩ := h4
    have HK := Lib.hid HK'
    clear HK'
    have l0 : w.heap.size < Wp.heap.size := World.block_lt_of_cell? _ _ c0
    have l1 : w.heap.size + 1 < Wp.heap.size := World.block_lt_of_cell? _ _ c3
    go_wp2_with fail
    go_at_call 30
    refine (cplusA _ _ _ _ _ _ HQ.out _).mono ?_
    rintro e Wq ⟨rfl, hb⟩
    have h4 := keepca6 ⟨c0, c1, c2, c3, c4, c5, HK.out⟩ hb
    have hv := vat Wp p.k p.x p.s 24
    have d0 := keep1 hv.1 hb
    have d1 := keep1 hv.2.1 hb
    have d2 := keep1 hv.2.2 hb
    clear hv
    clear c0 c1 c2 c3 c4 c5 HK hb
    obtain ⟨c0, c1, c2, c3, c4, c5, HK'⟩ := h4
    have HK := Lib.hid HK'
    clear HK'
    have c6 := d0
    have c7 := d1
    have c8 := d2
    clear d0 d1 d2
    have l0 : w.heap.size < Wq.heap.size := World.block_lt_of_cell? _ _ c0
    have l1 : w.heap.size + 1 < Wq.heap.size := World.block_lt_of_cell? _ _ c3
    have l2 : Wp.heap.size < Wq.heap.size := World.block_lt_of_cell? _ _ c6
    go_wp2_with fail
    have hv := vat Wq p.k p.x p.s 24
    have h4 := keepc9 ⟨c0, c1, c2, c3, c4, c5, c6, c7, c8, HK.out⟩ ((Below.refl _ _).alloc (Nat.le_refl _) (.cells #[.int .i64 p.k, .float .f64 (fb p.x), .string (bs p.s)] 24))
    clear c0 c1 c2 c3 c4 c5 c6 c7 c8 HK
    obtain ⟨c0, c1, c2, c3, c4, c5, c6, c7, c8, HK'⟩ := h4
    have HK := Lib.hid HK'
    clear HK'
    obtain ⟨c9, c10, c11⟩ := hv
    go_wp2_with (first | (go_at_call 13; ((with_reducible refine (cval_self _ _ _ _).mono ?_); rintro e W ⟨rfl, hb⟩; have h4 := keepc12 ⟨c0, c1, c2, c3, c4, c5, c6, c7, c8, c9, c10, c11, HK.out⟩ hb; clear c0 c1 c2 c3 c4 c5 c6 c7 c8 c9 c10 c11 HK hb; obtain ⟨c0, c1, c2, c3, c4, c5, c6, c7, c8, c9, c10, c11, HK'⟩ := h4; have HK := Lib.hid HK'; clear HK')) | (go_at_call 20; ((with_reducible refine (cmayB ka xa sa MA.out _).mono ?_); rintro e W ⟨rfl, hb⟩; have h4 := keepc12 ⟨c0, c1, c2, c3, c4, c5, c6, c7, c8, c9, c10, c11, HK.out⟩ hb; clear c0 c1 c2 c3 c4 c5 c6 c7 c8 c9 c10 c11 HK hb; obtain ⟨c0, c1, c2, c3, c4, c5, c6, c7, c8, c9, c10, c11, HK'⟩ := h4; have HK := Lib.hid HK'; clear HK')) | (go_at_call 20; ((with_reducible refine (cmayB kb xb sb MB.out _).mono ?_); rintro e W ⟨rfl, hb⟩; have h4 := keepc12 ⟨c0, c1, c2, c3, c4, c5, c6, c7, c8, c9, c10, c11, HK.out⟩ hb; clear c0 c1 c2 c3 c4 c5 c6 c7 c8 c9 c10 c11 HK hb; obtain ⟨c0, c1, c2, c3, c4, c5, c6, c7, c8, c9, c10, c11, HK'⟩ := h4; have HK := Lib.hid HK'; clear HK')))
    go_at_call 30
    refine (cplusN _ _ _ HZ.out _).mono ?_
    rintro e Wz ⟨rfl, hb⟩
    have h4 := keepc12 ⟨c0, c1, c2, c3, c4, c5, c6, c7, c8, c9, c10, c11, HK.out⟩ hb
    clear c0 c1 c2 c3 c4 c5 c6 c7 c8 c9 c10 c11 HK hb
    obtain ⟨c0, c1, c2, c3, c4, c5, c6, c7, c8, c9, c10, c11, HK'⟩ := h4
    have HK := Lib.hid HK'
    clear HK'
    have l0 : w.heap.size < Wz.heap.size := World.block_lt_of_cell? _ _ c0
    have l1 : w.heap.size + 1 < Wz.heap.size := World.block_lt_of_cell? _ _ c3
    have l2 : Wp.heap.size < Wz.heap.size := World.block_lt_of_cell? _ _ c6
    have l3 : Wq.heap.size < Wz.heap.size := World.block_lt_of_cell? _ _ c9
    go_wp2_with fail
    have hv := vat Wz 1 0 [] 24
    have h4 := keepc12 ⟨c0, c1, c2, c3, c4, c5, c6, c7, c8, c9, c10, c11, HK.out⟩ ((Below.refl _ _).alloc (Nat.le_refl _) (.cells #[.int .i64 1, .float .f64 (fb 0), .string (bs [])] 24))
    clear c0 c1 c2 c3 c4 c5 c6 c7 c8 c9 c10 c11 HK
    obtain ⟨c0, c1, c2, c3, c4, c5, c6, c7, c8, c9, c10, c11, HK'⟩ := h4
    have HK := Lib.hid HK'
    clear HK'
    obtain ⟨c12, c13, c14⟩ := hv
    have l8 : Wz.heap.size < (Wz.alloc (.cells #[.int .i64 1, .float .f64 (fb 0), .string (bs [])] 24)).heap.size := by simp
    go_wp2_with (first | (go_at_call 20; ((with_reducible refine (cmayB ka xa sa MA.out _).mono ?_); rintro e W ⟨rfl, hb⟩; have h4 := keepc15 ⟨c0, c1, c2, c3, c4, c5, c6, c7, c8, c9, c10, c11, c12, c13, c14, HK.out⟩ hb; clear c0 c1 c2 c3 c4 c5 c6 c7 c8 c9 c10 c11 c12 c13 c14 HK hb; obtain ⟨c0, c1, c2, c3, c4, c5, c6, c7, c8, c9, c10, c11, c12, c13, c14, HK'⟩ := h4; have HK := Lib.hid HK'; clear HK')))
    go_region_held3 (fun W => W.cell? ⟨w.heap.size, 0, none⟩ = some (.int .i64 ka) ∧ W.cell? ⟨w.heap.size, 1, none⟩ = some (.float .f64 (fb xa)) ∧ W.cell? ⟨w.heap.size, 2, none⟩ = some (.string (bs sa)) ∧ W.cell? ⟨w.heap.size + 1, 0, none⟩ = some (.int .i64 kb) ∧ W.cell? ⟨w.heap.size + 1, 1, none⟩ = some (.float .f64 (fb xb)) ∧ W.cell? ⟨w.heap.size + 1, 2, none⟩ = some (.string (bs sb)) ∧ W.cell? ⟨Wp.heap.size, 0, none⟩ = some (.int .i64 p.k) ∧ W.cell? ⟨Wp.heap.size, 1, none⟩ = some (.float .f64 (fb p.x)) ∧ W.cell? ⟨Wp.heap.size, 2, none⟩ = some (.string (bs p.s)) ∧ W.cell? ⟨Wq.heap.size, 0, none⟩ = some (.int .i64 p.k) ∧ W.cell? ⟨Wq.heap.size, 1, none⟩ = some (.float .f64 (fb p.x)) ∧ W.cell? ⟨Wq.heap.size, 2, none⟩ = some (.string (bs p.s)) ∧ W.cell? ⟨Wz.heap.size, 0, none⟩ = some (.int .i64 1) ∧ W.cell? ⟨Wz.heap.size, 1, none⟩ = some (.float .f64 (fb 0)) ∧ W.cell? ⟨Wz.heap.size, 2, none⟩ = some (.string (bs [])) ∧ Kp w W) (first | assumption | exact keepcd15 ⟨c0, c1, c2, c3, c4, c5, c6, c7, c8, c9, c10, c11, c12, c13, c14, HK.out⟩ | exact keepc15 (by assumption) hb) ((first | (go_at_call 11; with_reducible (refine (first_any _ ((by assumption : _ ∧ _ ∧ _ ∧ _ ∧ _ ∧ _ ∧ _ ∧ _ ∧ _ ∧ _ ∧ _ ∧ _ ∧ _ ∧ _ ∧ _ ∧ Kp w _).2.2.2.2.2.2.2.2.2.2.2.2.2.2.2.laid)).mono ?_); rintro e W ⟨rfl, hb⟩) | (go_at_call 13; with_reducible (refine (HVF.out _).mono ?_); rintro e W ⟨rfl, hb⟩) | (go_at_call 14; with_reducible (refine (cnum0 _).mono ?_); rintro e W ⟨rfl, hb⟩) | (go_at_call 13; with_reducible (refine (cval_self _ _ _ _).mono ?_); rintro e W ⟨rfl, hb⟩)))
    all_goals
      go_wp2
      go_ret
      exact ⟨rfl, (by assumption : _ ∧ _ ∧ _ ∧ _ ∧ _ ∧ _ ∧ _ ∧ _ ∧ _ ∧ _ ∧ _ ∧ _ ∧ _ ∧ _ ∧ _ ∧ Kp w _).2.2.2.2.2.2.2.2.2.2.2.2.2.2.2.below⟩
theorem adds_any (ka : Int) (xa : UInt64) (sa : List UInt8) (kb : Int) (xb : UInt64) (sb : List UInt8) (w : World) (hT : Laid w) : Calls Tryd.prog 6 #[VA ka xa sa, VA kb xb sb] w fun e w' => e = .returned (.bool true) ∧ Below w.heap.size w w' := by
  cases h1 : decide (sa.length ≤ 2000) with
  | false => exact adds_l1 _ _ _ _ _ _ w hT h1
  | true =>
  cases h2 : decide (sb.length ≤ 2000) with
  | false => exact adds_l2 _ _ _ _ _ _ w hT h1 h2
  | true =>
  have hq := plusD_turn ka xa sa kb xb sb
  have he := plusD_e ka xa sa kb xb sb
  by_cases hm : mayB ka xa sa = true ∧ ka = 1
  · obtain ⟨hm, rfl⟩ := hm
    obtain ⟨rfl, hc⟩ := may_one hm
    rw [hm] at he
    rcases plus_none_cases hc with h | ⟨rfl, h⟩
    · exact adds_2 _ _ _ _ _ _ w hT h1 h2 _ _ hm rfl rfl rfl _ rfl hq he h rfl
    · refine adds_3 _ _ _ _ _ _ w hT h1 h2 _ _ hm rfl rfl rfl _ rfl hq he h rfl (fun W => ?_) (by decide +kernel)
      have := value_any 1 0 [] 1 topW [] W
      rw [show valB 1 0 [] 1 topW [] = false by decide] at this
      exact this
  · refine adds_1 _ _ _ _ _ _ w hT h1 h2 _ _ _ _ rfl rfl rfl rfl _ rfl hq he _ rfl ?_
    cases hm1 : mayB ka xa sa with
    | false => exact .inl rfl
    | true =>
      right
      have : ka ≠ 1 := fun e => hm ⟨hm1, e⟩
      simp [bne_iff_ne, this]
end Go.Proofs.YtecgjhjglklcnaaDoor
