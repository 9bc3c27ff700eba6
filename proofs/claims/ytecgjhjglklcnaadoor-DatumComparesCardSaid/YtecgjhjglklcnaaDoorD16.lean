/-
  The walk of DatumCompares. Written by a program (dlaw.py).
-/
import Derived.Test.YtecgjhjglklcnaaDoorD15
namespace Go.Proofs.YtecgjhjglklcnaaDoor
set_option maxRecDepth 100000
open Go.RowKit Go.Shelf Go.Sort
attribute [local go_sem] bs_size bs_get bs_toList frombits tobits run_store_float
theorem csameR (ka : Int) (xa : UInt64) (sa : List UInt8) (kb : Int) (xb : UInt64) (sb : List UInt8) (W : World) : Calls Tryd.prog 35 #[.agg #[.int .i64 ka, .float .f64 (fb xa), .string (bs sa)], .agg #[.int .i64 kb, .float .f64 (fb xb), .string (bs sb)]] W fun e w' => e = .returned (.bool (sameB ka xa sa kb xb sb)) ∧ Below W.heap.size W w' := refSame_any ka xa sa kb xb sb W
set_option maxHeartbeats 4000000 in
theorem compares_any (ka : Int) (xa : UInt64) (sa : List UInt8) (kb : Int) (xb : UInt64) (sb : List UInt8) (w : World) (hT : Laid w) :
    Calls Tryd.prog 7 #[VA ka xa sa, VA kb xb sb] w fun e w' => e = .returned (.bool true) ∧ Below w.heap.size w w' := by
  unfold VA
  have HK : Hid (Kp w ((w.alloc (.cells #[.int .i64 ka, .float .f64 (fb xa), .string (bs sa)] 24)).alloc (.cells #[.int .i64 kb, .float .f64 (fb xb), .string (bs sb)] 24))) := ((Kp.start hT).alloc _).alloc _
  clear hT
  obtain ⟨c0, c1, c2, c3, c4, c5⟩ := vat2 w ka xa sa kb xb sb 24 rfl
  cases ha : decide (sa.length ≤ 2000) with
  | false =>
    have HA := Lib.hid ha
    clear ha
    go_enter Tryd.func7, Tryd.ntmps7
    go_wp2_with (first | (go_at_call 11; ((with_reducible refine (first_any _ HK.out.laid).mono ?_); rintro e W ⟨rfl, hb⟩; have h4 := keepc6 ⟨c0, c1, c2, c3, c4, c5, HK.out⟩ hb; clear c0 c1 c2 c3 c4 c5 HK hb; obtain ⟨c0, c1, c2, c3, c4, c5, HK'⟩ := h4; have HK := Lib.hid HK'; clear HK')) | (go_at_call 12; ((with_reducible refine (csmall (k := ka) (x := xa) HA.out _).mono ?_); rintro e W ⟨rfl, hb⟩; have h4 := keepc6 ⟨c0, c1, c2, c3, c4, c5, HK.out⟩ hb; clear c0 c1 c2 c3 c4 c5 HK hb; obtain ⟨c0, c1, c2, c3, c4, c5, HK'⟩ := h4; have HK := Lib.hid HK'; clear HK')))
    go_ret
    exact ⟨rfl, HK.out.below⟩
  | true =>
  have HA := Lib.hid ha
  clear ha
  cases hb0 : decide (sb.length ≤ 2000) with
  | false =>
    have HB := Lib.hid hb0
    clear hb0
    go_enter Tryd.func7, Tryd.ntmps7
    go_wp2_with (first | (go_at_call 11; ((with_reducible refine (first_any _ HK.out.laid).mono ?_); rintro e W ⟨rfl, hb⟩; have h4 := keepc6 ⟨c0, c1, c2, c3, c4, c5, HK.out⟩ hb; clear c0 c1 c2 c3 c4 c5 HK hb; obtain ⟨c0, c1, c2, c3, c4, c5, HK'⟩ := h4; have HK := Lib.hid HK'; clear HK')))
    go_at_call 12
    refine (csmall HA.out _).mono ?_
    rintro e W ⟨rfl, hb⟩
    have h4 := keepc6 ⟨c0, c1, c2, c3, c4, c5, HK.out⟩ hb
    clear c0 c1 c2 c3 c4 c5 HK hb
    obtain ⟨c0, c1, c2, c3, c4, c5, HK'⟩ := h4
    have HK := Lib.hid HK'
    clear HK'
    go_wp2_with fail
    go_at_call 12
    refine (csmall HB.out _).mono ?_
    rintro e W ⟨rfl, hb⟩
    have h4 := keepc6 ⟨c0, c1, c2, c3, c4, c5, HK.out⟩ hb
    clear c0 c1 c2 c3 c4 c5 HK hb
    obtain ⟨c0, c1, c2, c3, c4, c5, HK'⟩ := h4
    have HK := Lib.hid HK'
    clear HK'
    go_wp2_with (go_at_call 11; ((with_reducible refine (first_any _ HK.out.laid).mono ?_); rintro e W ⟨rfl, hb⟩; have h4 := keepc6 ⟨c0, c1, c2, c3, c4, c5, HK.out⟩ hb; clear c0 c1 c2 c3 c4 c5 HK hb; obtain ⟨c0, c1, c2, c3, c4, c5, HK'⟩ := h4; have HK := Lib.hid HK'; clear HK'))
    go_ret
    exact ⟨rfl, HK.out.below⟩
  | true =>
  have HB := Lib.hid hb0
  clear hb0
  obtain ⟨p, hp⟩ : ∃ p, plusD ka xa sa kb xb sb = p := ⟨_, rfl⟩
  have HP := Lib.hid hp
  clear hp
  obtain ⟨c, hcc⟩ : ∃ c, cmpV ka xa sa kb xb sb = c := ⟨_, rfl⟩
  have HC := Lib.hid hcc
  clear hcc
  go_enter Tryd.func7, Tryd.ntmps7
  go_wp2_with (first | (go_at_call 11; ((with_reducible refine (first_any _ HK.out.laid).mono ?_); rintro e W ⟨rfl, hb⟩; have h4 := keepc6 ⟨c0, c1, c2, c3, c4, c5, HK.out⟩ hb; clear c0 c1 c2 c3 c4 c5 HK hb; obtain ⟨c0, c1, c2, c3, c4, c5, HK'⟩ := h4; have HK := Lib.hid HK'; clear HK')))
  go_at_call 12
  refine (csmall HA.out _).mono ?_
  rintro e W ⟨rfl, hb⟩
  have h4 := keepc6 ⟨c0, c1, c2, c3, c4, c5, HK.out⟩ hb
  clear c0 c1 c2 c3 c4 c5 HK hb
  obtain ⟨c0, c1, c2, c3, c4, c5, HK'⟩ := h4
  have HK := Lib.hid HK'
  clear HK'
  go_wp2_with fail
  go_at_call 12
  refine (csmall HB.out _).mono ?_
  rintro e W ⟨rfl, hb⟩
  have h4 := keepc6 ⟨c0, c1, c2, c3, c4, c5, HK.out⟩ hb
  clear c0 c1 c2 c3 c4 c5 HK hb
  obtain ⟨c0, c1, c2, c3, c4, c5, HK'⟩ := h4
  have HK := Lib.hid HK'
  clear HK'
  go_wp2_with fail
  go_at_call 30
  refine (cplusA _ _ _ _ _ _ HP.out _).mono ?_
  rintro e Wp ⟨rfl, hb⟩
  have h4 := keepc6 ⟨c0, c1, c2, c3, c4, c5, HK.out⟩ hb
  clear c0 c1 c2 c3 c4 c5 HK hb
  obtain ⟨c0, c1, c2, c3, c4, c5, HK'⟩ := h4
  have HK := Lib.hid HK'
  clear HK'
  have l0 : w.heap.size < Wp.heap.size := World.block_lt_of_cell? _ _ c0
  have l1 : w.heap.size + 1 < Wp.heap.size := World.block_lt_of_cell? _ _ c3
  go_wp2_with fail
  go_at_call 31
  refine (cplusR _ _ _ _ _ _ HP.out _).mono ?_
  rintro e Wq ⟨rfl, hb⟩
  have h4 := keepca6 ⟨c0, c1, c2, c3, c4, c5, HK.out⟩ hb
  have hv := vat Wp p.k p.x p.s 24
  have d0 := keep1 hv.1 hb
  have d1 := keep1 hv.2.1 hb
  have d2 := keep1 hv.2.2 hb
  clear hv
  clear c0 c1 c2 c3 c4 c5 HK hb
  obtain ⟨c0, c1, c2, c3, c4, c5, HK'⟩ := h4
  have HK := Lib.hid HK'
  clear HK'
  have c6 := d0
  have c7 := d1
  have c8 := d2
  clear d0 d1 d2
  have l0 : w.heap.size < Wq.heap.size := World.block_lt_of_cell? _ _ c0
  have l1 : w.heap.size + 1 < Wq.heap.size := World.block_lt_of_cell? _ _ c3
  have l2 : Wp.heap.size < Wq.heap.size := World.block_lt_of_cell? _ _ c6
  go_wp2_with fail
  have hv := vat Wq p.k p.x p.s 24
  have h4 := keepc9 ⟨c0, c1, c2, c3, c4, c5, c6, c7, c8, HK.out⟩ ((Below.refl _ _).alloc (Nat.le_refl _) (.cells #[.int .i64 p.k, .float .f64 (fb p.x), .string (bs p.s)] 24))
  clear c0 c1 c2 c3 c4 c5 c6 c7 c8 HK
  obtain ⟨c0, c1, c2, c3, c4, c5, c6, c7, c8, HK'⟩ := h4
  have HK := Lib.hid HK'
  clear HK'
  obtain ⟨c9, c10, c11⟩ := hv
  go_region_held3 (fun W => W.cell? ⟨w.heap.size, 0, none⟩ = some (.int .i64 ka) ∧ W.cell? ⟨w.heap.size, 1, none⟩ = some (.float .f64 (fb xa)) ∧ W.cell? ⟨w.heap.size, 2, none⟩ = some (.string (bs sa)) ∧ W.cell? ⟨w.heap.size + 1, 0, none⟩ = some (.int .i64 kb) ∧ W.cell? ⟨w.heap.size + 1, 1, none⟩ = some (.float .f64 (fb xb)) ∧ W.cell? ⟨w.heap.size + 1, 2, none⟩ = some (.string (bs sb)) ∧ W.cell? ⟨Wp.heap.size, 0, none⟩ = some (.int .i64 p.k) ∧ W.cell? ⟨Wp.heap.size, 1, none⟩ = some (.float .f64 (fb p.x)) ∧ W.cell? ⟨Wp.heap.size, 2, none⟩ = some (.string (bs p.s)) ∧ W.cell? ⟨Wq.heap.size, 0, none⟩ = some (.int .i64 p.k) ∧ W.cell? ⟨Wq.heap.size, 1, none⟩ = some (.float .f64 (fb p.x)) ∧ W.cell? ⟨Wq.heap.size, 2, none⟩ = some (.string (bs p.s)) ∧ Kp w W) (first | assumption | exact keepcd12 ⟨c0, c1, c2, c3, c4, c5, c6, c7, c8, c9, c10, c11, HK.out⟩ | exact keepc12 (by assumption) hb) ((first | (go_at_call 11; with_reducible (refine (first_any _ ((by assumption : _ ∧ _ ∧ _ ∧ _ ∧ _ ∧ _ ∧ _ ∧ _ ∧ _ ∧ _ ∧ _ ∧ _ ∧ Kp w _).2.2.2.2.2.2.2.2.2.2.2.2.laid)).mono ?_); rintro e W ⟨rfl, hb⟩) | (go_at_call 32; with_reducible (refine (ccmp _ _ _ _ _ _ HC.out _).mono ?_); rintro e W ⟨rfl, hb⟩) | (go_at_call 33; with_reducible (refine (ccmpR _ _ _ _ _ _ HC.out _).mono ?_); rintro e W ⟨rfl, hb⟩) | (go_at_call 34; with_reducible (refine (csame _ _ _ _ _ _ rfl _).mono ?_); rintro e W ⟨rfl, hb⟩) | (go_at_call 35; with_reducible (refine (csameR _ _ _ _ _ _ _).mono ?_); rintro e W ⟨rfl, hb⟩) | (go_at_call 13; with_reducible (refine (cval_self _ _ _ _).mono ?_); rintro e W ⟨rfl, hb⟩)))
  all_goals
    go_wp2
    go_ret
    exact ⟨rfl, (by assumption : _ ∧ _ ∧ _ ∧ _ ∧ _ ∧ _ ∧ _ ∧ _ ∧ _ ∧ _ ∧ _ ∧ _ ∧ Kp w _).2.2.2.2.2.2.2.2.2.2.2.2.below⟩
end Go.Proofs.YtecgjhjglklcnaaDoor
