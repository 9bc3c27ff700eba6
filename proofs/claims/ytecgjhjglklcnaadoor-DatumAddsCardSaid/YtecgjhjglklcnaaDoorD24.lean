/-
  The walk of DatumAdds. Written by a program (dlaw.py).
-/
import Derived.Test.YtecgjhjglklcnaaDoorD21
namespace Go.Proofs.YtecgjhjglklcnaaDoor
set_option maxRecDepth 100000
open Go.RowKit Go.Shelf Go.Sort
attribute [local go_sem] bs_size bs_get bs_toList frombits tobits run_store_float
theorem wpAnyH_takeD {P : Program} {ops : Array Oper} {Q : Exit → Act → World → Prop} {md : Region.Mode} {S : World → Prop} {i d : Nat} {oi : Oper} {v : Value} {fuel : Nat} {listed : Array Bool} {a : Act} {w : World} (hi : ops[i]? = some oi) (hd : oi.dst = some d) (hs : Region.noSelect ops = true) (hf : Region.free md ops listed i = true) (hr : (Region.ready md ops listed).contains i = true) (hQ : ∀ c a w, Q (.panic c) (a.put oi.dst v) w → Q (.panic c) a w) (hy : YieldsIf P ops S oi v a) (hS : S w) (h : wpAnyH P md ops Q S fuel (listed.setIfInBounds i true) (a.put (some d) v) w) : wpAnyH P md ops Q S (fuel + 1) listed a w :=
  wpAnyH_take hi hs hf hr hQ hy hS (by rw [hd]; exact h)
set_option maxHeartbeats 4000000 in
theorem adds_2 (ka : Int) (xa : UInt64) (sa : List UInt8) (kb : Int) (xb : UInt64) (sb : List UInt8) (w : World) (hT : Laid w) (HA : Hid (decide (sa.length ≤ 2000) = true)) (HB : Hid (decide (sb.length ≤ 2000) = true)) (mB u2 : Bool) (MA : Hid (mayB ka xa sa = true)) (MB : Hid (mayB kb xb sb = mB)) (hu1 : (ka != 2) = true) (hu2 : (kb != 2) = u2) (p : PV) (HP : Hid (plusD ka xa sa kb xb sb = p)) (HQ : Hid (plusD kb xb sb ka xa sa = p)) (hpe : (p.e == 0) = (true && (mB && (true && u2)))) (HZ : Hid (plusD ka xa sa 0 0 [] = ⟨ka, xa, sa, 0⟩)) (hk1 : (ka != 1) = false) : Calls Tryd.prog 6 #[VA ka xa sa, VA kb xb sb] w fun e w' => e = .returned (.bool true) ∧ Below w.heap.size w w' := by
  unfold VA
  have HK : Hid (Kp w ((w.alloc (.cells #[.int .i64 ka, .float .f64 (fb xa), .string (bs sa)] 24)).alloc (.cells #[.int .i64 kb, .float .f64 (fb xb), .string (bs sb)] 24))) := ((Kp.start hT).alloc _).alloc _
  clear hT
  obtain ⟨c0, c1, c2, c3, c4, c5⟩ := vat2 w ka xa sa kb xb sb 24 rfl
  cases mB
  case' true => cases u2
  all_goals
    have hk1 : (ka != 1) = false := hk1
    simp only [Bool.and_true, Bool.and_false, Bool.true_and, Bool.false_and] at hpe
    go_enter Tryd.func6, Tryd.ntmps6
    go_wp2_with (first | (go_at_call 11; ((with_reducible refine (first_any _ HK.out.laid).mono ?_); rintro e W ⟨rfl, hb⟩; have h4 := keepc6 ⟨c0, c1, c2, c3, c4, c5, HK.out⟩ hb; clear c0 c1 c2 c3 c4 c5 HK hb; obtain ⟨c0, c1, c2, c3, c4, c5, HK'⟩ := h4; have HK := Lib.hid HK'; clear HK')))
    go_at_call 12
    refine (csmall HA.out _).mono ?_
    rintro e W ⟨rfl, hb⟩
    have h4 := keepc6 ⟨c0, c1, c2, c3, c4, c5, HK.out⟩ hb
    clear c0 c1 c2 c3 c4 c5 HK hb
    obtain ⟨c0, c1, c2, c3, c4, c5, HK'⟩ := h4
    have HK := Lib.hid HK'
    clear HK'
    go_wp2_with fail
    go_at_call 12
    refine (csmall HB.out _).mono ?_
    rintro e W ⟨rfl, hb⟩
    have h4 := keepc6 ⟨c0, c1, c2, c3, c4, c5, HK.out⟩ hb
    clear c0 c1 c2 c3 c4 c5 HK hb
    obtain ⟨c0, c1, c2, c3, c4, c5, HK'⟩ := h4
    have HK := Lib.hid HK'
    clear HK'
    go_wp2_with fail
    go_at_call 30
    refine (cplusA _ _ _ _ _ _ HP.out _).mono ?_
    rintro e Wp ⟨rfl, hb⟩
    have h4 := keepc6 ⟨c0, c1, c2, c3, c4, c5, HK.out⟩ hb
    clear c0 c1 c2 c3 c4 c5 HK hb
    obtain ⟨c0, c1, c2, c3, c4, c5, HK'⟩ := h4
    have HK := Lib.hid HK'
    clear HK'
    have l0 : w.heap.size < Wp.heap.size := World.block_lt_of_cell? _ _ c0
    have l1 : w.heap.size + 1 < Wp.heap.size := World.block_lt_of_cell? _ _ c3
    go_wp2_with fail
    go_at_call 30
    refine (cplusA _ _ _ _ _ _ HQ.out _).mono ?_
    rintro e Wq ⟨rfl, hb⟩
    have h4 := keepca6 ⟨c0, c1, c2, c3, c4, c5, HK.out⟩ hb
    have hv := vat Wp p.k p.x p.s 24
    have d0 := keep1 hv.1 hb
    have d1 := keep1 hv.2.1 hb
    have d2 := keep1 hv.2.2 hb
    clear hv
    clear c0 c1 c2 c3 c4 c5 HK hb
    obtain ⟨c0, c1, c2, c3, c4, c5, HK'⟩ := h4
    have HK := Lib.hid HK'
    clear HK'
    have c6 := d0
    have c7 := d1
    have c8 := d2
    clear d0 d1 d2
    have l0 : w.heap.size < Wq.heap.size := World.block_lt_of_cell? _ _ c0
    have l1 : w.heap.size + 1 < Wq.heap.size := World.block_lt_of_cell? _ _ c3
    have l2 : Wp.heap.size < Wq.heap.size := World.block_lt_of_cell? _ _ c6
    go_wp2_with fail
    have hv := vat Wq p.k p.x p.s 24
    have h4 := keepc9 ⟨c0, c1, c2, c3, c4, c5, c6, c7, c8, HK.out⟩ ((Below.refl _ _).alloc (Nat.le_refl _) (.cells #[.int .i64 p.k, .float .f64 (fb p.x), .string (bs p.s)] 24))
    clear c0 c1 c2 c3 c4 c5 c6 c7 c8 HK
    obtain ⟨c0, c1, c2, c3, c4, c5, c6, c7, c8, HK'⟩ := h4
    have HK := Lib.hid HK'
    clear HK'
    obtain ⟨c9, c10, c11⟩ := hv
    go_wp2_with (first | (go_at_call 13; ((with_reducible refine (cval_self _ _ _ _).mono ?_); rintro e W ⟨rfl, hb⟩; have h4 := keepc12 ⟨c0, c1, c2, c3, c4, c5, c6, c7, c8, c9, c10, c11, HK.out⟩ hb; clear c0 c1 c2 c3 c4 c5 c6 c7 c8 c9 c10 c11 HK hb; obtain ⟨c0, c1, c2, c3, c4, c5, c6, c7, c8, c9, c10, c11, HK'⟩ := h4; have HK := Lib.hid HK'; clear HK')) | (go_at_call 20; ((with_reducible refine (cmayB ka xa sa MA.out _).mono ?_); rintro e W ⟨rfl, hb⟩; have h4 := keepc12 ⟨c0, c1, c2, c3, c4, c5, c6, c7, c8, c9, c10, c11, HK.out⟩ hb; clear c0 c1 c2 c3 c4 c5 c6 c7 c8 c9 c10 c11 HK hb; obtain ⟨c0, c1, c2, c3, c4, c5, c6, c7, c8, c9, c10, c11, HK'⟩ := h4; have HK := Lib.hid HK'; clear HK')) | (go_at_call 20; ((with_reducible refine (cmayB kb xb sb MB.out _).mono ?_); rintro e W ⟨rfl, hb⟩; have h4 := keepc12 ⟨c0, c1, c2, c3, c4, c5, c6, c7, c8, c9, c10, c11, HK.out⟩ hb; clear c0 c1 c2 c3 c4 c5 c6 c7 c8 c9 c10 c11 HK hb; obtain ⟨c0, c1, c2, c3, c4, c5, c6, c7, c8, c9, c10, c11, HK'⟩ := h4; have HK := Lib.hid HK'; clear HK')))
    go_at_call 30
    refine (cplusN _ _ _ HZ.out _).mono ?_
    rintro e Wz ⟨rfl, hb⟩
    have h4 := keepc12 ⟨c0, c1, c2, c3, c4, c5, c6, c7, c8, c9, c10, c11, HK.out⟩ hb
    clear c0 c1 c2 c3 c4 c5 c6 c7 c8 c9 c10 c11 HK hb
    obtain ⟨c0, c1, c2, c3, c4, c5, c6, c7, c8, c9, c10, c11, HK'⟩ := h4
    have HK := Lib.hid HK'
    clear HK'
    have l0 : w.heap.size < Wz.heap.size := World.block_lt_of_cell? _ _ c0
    have l1 : w.heap.size + 1 < Wz.heap.size := World.block_lt_of_cell? _ _ c3
    have l2 : Wp.heap.size < Wz.heap.size := World.block_lt_of_cell? _ _ c6
    have l3 : Wq.heap.size < Wz.heap.size := World.block_lt_of_cell? _ _ c9
    go_wp2_with fail
    have hv := vat Wz ka xa sa 24
    have h4 := keepc12 ⟨c0, c1, c2, c3, c4, c5, c6, c7, c8, c9, c10, c11, HK.out⟩ ((Below.refl _ _).alloc (Nat.le_refl _) (.cells #[.int .i64 ka, .float .f64 (fb xa), .string (bs sa)] 24))
    clear c0 c1 c2 c3 c4 c5 c6 c7 c8 c9 c10 c11 HK
    obtain ⟨c0, c1, c2, c3, c4, c5, c6, c7, c8, c9, c10, c11, HK'⟩ := h4
    have HK := Lib.hid HK'
    clear HK'
    obtain ⟨c12, c13, c14⟩ := hv
    have l8 : Wz.heap.size < (Wz.alloc (.cells #[.int .i64 ka, .float .f64 (fb xa), .string (bs sa)] 24)).heap.size := by simp
    go_wp2_with (first | (go_at_call 20; ((with_reducible refine (cmayB ka xa sa MA.out _).mono ?_); rintro e W ⟨rfl, hb⟩; have h4 := keepc15 ⟨c0, c1, c2, c3, c4, c5, c6, c7, c8, c9, c10, c11, c12, c13, c14, HK.out⟩ hb; clear c0 c1 c2 c3 c4 c5 c6 c7 c8 c9 c10 c11 c12 c13 c14 HK hb; obtain ⟨c0, c1, c2, c3, c4, c5, c6, c7, c8, c9, c10, c11, c12, c13, c14, HK'⟩ := h4; have HK := Lib.hid HK'; clear HK')))
    refine wp_region_held_drew (S := (fun W => W.cell? ⟨w.heap.size, 0, none⟩ = some (.int .i64 ka) ∧ W.cell? ⟨w.heap.size, 1, none⟩ = some (.float .f64 (fb xa)) ∧ W.cell? ⟨w.heap.size, 2, none⟩ = some (.string (bs sa)) ∧ W.cell? ⟨w.heap.size + 1, 0, none⟩ = some (.int .i64 kb) ∧ W.cell? ⟨w.heap.size + 1, 1, none⟩ = some (.float .f64 (fb xb)) ∧ W.cell? ⟨w.heap.size + 1, 2, none⟩ = some (.string (bs sb)) ∧ W.cell? ⟨Wp.heap.size, 0, none⟩ = some (.int .i64 p.k) ∧ W.cell? ⟨Wp.heap.size, 1, none⟩ = some (.float .f64 (fb p.x)) ∧ W.cell? ⟨Wp.heap.size, 2, none⟩ = some (.string (bs p.s)) ∧ W.cell? ⟨Wq.heap.size, 0, none⟩ = some (.int .i64 p.k) ∧ W.cell? ⟨Wq.heap.size, 1, none⟩ = some (.float .f64 (fb p.x)) ∧ W.cell? ⟨Wq.heap.size, 2, none⟩ = some (.string (bs p.s)) ∧ W.cell? ⟨Wz.heap.size, 0, none⟩ = some (.int .i64 ka) ∧ W.cell? ⟨Wz.heap.size, 1, none⟩ = some (.float .f64 (fb xa)) ∧ W.cell? ⟨Wz.heap.size, 2, none⟩ = some (.string (bs sa)) ∧ Kp w W)) (by kernel_rfl) ?_ (fun hHeld => ?_)
    · (first | assumption | exact keepcd15 ⟨c0, c1, c2, c3, c4, c5, c6, c7, c8, c9, c10, c11, c12, c13, c14, HK.out⟩ | exact keepc15 (by assumption) hb)
    refine wpAnyH_ready (rs := [0]) (by kernel_rfl) (by simp) ?_
    refine AllReadyH.cons rfl (fun K hK => ?_) AllReadyH.nil
    go_simp
    go_at_call 11
    refine (first_any _ ((by assumption : _ ∧ _ ∧ _ ∧ _ ∧ _ ∧ _ ∧ _ ∧ _ ∧ _ ∧ _ ∧ _ ∧ _ ∧ _ ∧ _ ∧ _ ∧ Kp w _).2.2.2.2.2.2.2.2.2.2.2.2.2.2.2.laid)).mono ?_
    rintro e W ⟨rfl, hb⟩
    refine hK.out _ _ ?_ (fun hHeld => ?_)
    · (first | assumption | exact keepcd15 ⟨c0, c1, c2, c3, c4, c5, c6, c7, c8, c9, c10, c11, c12, c13, c14, HK.out⟩ | exact keepc15 (by assumption) hb)
    clear hK K
    try simp only [Act.put, List.setIfInBounds_toArray, List.set_cons_zero, List.set_cons_succ]
    refine wpAnyH_takeD (i := 1) (d := 80) (v := ?_) rfl (by kernel_rfl) (by kernel_rfl) (by kernel_rfl) (by kernel_rfl) (fun _ _ _ h => h) (Or.inl ⟨by kernel_rfl, ?_⟩) (by assumption) ?_
    rotate_left
    · intro w hSw; (try dsimp only at hSw); go_simp; (try with_reducible rfl)
    try simp only [Act.put, List.setIfInBounds_toArray, List.set_cons_zero, List.set_cons_succ]
    refine wpAnyH_takeD (i := 2) (d := 81) (v := ?_) rfl (by kernel_rfl) (by kernel_rfl) (by kernel_rfl) (by kernel_rfl) (fun _ _ _ h => h) (Or.inl ⟨by kernel_rfl, ?_⟩) (by assumption) ?_
    rotate_left
    · intro w hSw; (try dsimp only at hSw); go_simp; (try with_reducible rfl)
    try simp only [Act.put, List.setIfInBounds_toArray, List.set_cons_zero, List.set_cons_succ]
    refine wpAnyH_takeD (i := 3) (d := 82) (v := ?_) rfl (by kernel_rfl) (by kernel_rfl) (by kernel_rfl) (by kernel_rfl) (fun _ _ _ h => h) (Or.inl ⟨by kernel_rfl, ?_⟩) (by assumption) ?_
    rotate_left
    · intro w hSw; (try dsimp only at hSw); go_simp; (try with_reducible rfl)
    try simp only [Act.put, List.setIfInBounds_toArray, List.set_cons_zero, List.set_cons_succ]
    refine wpAnyH_takeD (i := 4) (d := 83) (v := ?_) rfl (by kernel_rfl) (by kernel_rfl) (by kernel_rfl) (by kernel_rfl) (fun _ _ _ h => h) (Or.inl ⟨by kernel_rfl, ?_⟩) (by assumption) ?_
    rotate_left
    · intro w hSw; (try dsimp only at hSw); go_simp; (try with_reducible rfl)
    try simp only [Act.put, List.setIfInBounds_toArray, List.set_cons_zero, List.set_cons_succ]
    refine wpAnyH_takeD (i := 5) (d := 84) (v := ?_) rfl (by kernel_rfl) (by kernel_rfl) (by kernel_rfl) (by kernel_rfl) (fun _ _ _ h => h) (Or.inl ⟨by kernel_rfl, ?_⟩) (by assumption) ?_
    rotate_left
    · intro w hSw; (try dsimp only at hSw); go_simp; (try with_reducible rfl)
    try simp only [Act.put, List.setIfInBounds_toArray, List.set_cons_zero, List.set_cons_succ]
    refine wpAnyH_takeD (i := 6) (d := 85) (v := ?_) rfl (by kernel_rfl) (by kernel_rfl) (by kernel_rfl) (by kernel_rfl) (fun _ _ _ h => h) (Or.inl ⟨by kernel_rfl, ?_⟩) (by assumption) ?_
    rotate_left
    · intro w hSw; (try dsimp only at hSw); go_simp; (try with_reducible rfl)
    try simp only [Act.put, List.setIfInBounds_toArray, List.set_cons_zero, List.set_cons_succ]
    refine wpAnyH_takeD (i := 7) (d := 86) (v := ?_) rfl (by kernel_rfl) (by kernel_rfl) (by kernel_rfl) (by kernel_rfl) (fun _ _ _ h => h) (Or.inl ⟨by kernel_rfl, ?_⟩) (by assumption) ?_
    rotate_left
    · intro w hSw; (try dsimp only at hSw); go_simp; (try with_reducible rfl)
    try simp only [Act.put, List.setIfInBounds_toArray, List.set_cons_zero, List.set_cons_succ]
    refine wpAnyH_ready (rs := [8]) (by kernel_rfl) (by simp) ?_
    refine AllReadyH.cons rfl (fun K hK => ?_) AllReadyH.nil
    go_simp
    go_at_call 13
    refine (cval_self _ _ _ _).mono ?_
    rintro e W ⟨rfl, hb⟩
    refine hK.out _ _ ?_ (fun hHeld => ?_)
    · (first | assumption | exact keepcd15 ⟨c0, c1, c2, c3, c4, c5, c6, c7, c8, c9, c10, c11, c12, c13, c14, HK.out⟩ | exact keepc15 (by assumption) hb)
    clear hK K
    try simp only [Act.put, List.setIfInBounds_toArray, List.set_cons_zero, List.set_cons_succ]
    refine wpAnyH_takeD (i := 9) (d := 88) (v := ?_) rfl (by kernel_rfl) (by kernel_rfl) (by kernel_rfl) (by kernel_rfl) (fun _ _ _ h => h) (Or.inl ⟨by kernel_rfl, ?_⟩) (by assumption) ?_
    rotate_left
    · intro w hSw; (try dsimp only at hSw); go_simp; (try with_reducible rfl)
    try simp only [Act.put, List.setIfInBounds_toArray, List.set_cons_zero, List.set_cons_succ]
    refine wpAnyH_takeD (i := 10) (d := 89) (v := undef) rfl (by kernel_rfl) (by kernel_rfl) (by kernel_rfl) (by kernel_rfl) (fun _ _ _ h => h) (Or.inr ⟨by kernel_rfl, rfl⟩) (by assumption) ?_
    try simp only [Act.put, List.setIfInBounds_toArray, List.set_cons_zero, List.set_cons_succ]
    refine wpAnyH_takeD (i := 11) (d := 90) (v := undef) rfl (by kernel_rfl) (by kernel_rfl) (by kernel_rfl) (by kernel_rfl) (fun _ _ _ h => h) (Or.inr ⟨by kernel_rfl, rfl⟩) (by assumption) ?_
    try simp only [Act.put, List.setIfInBounds_toArray, List.set_cons_zero, List.set_cons_succ]
    refine wpAnyH_takeD (i := 12) (d := 91) (v := undef) rfl (by kernel_rfl) (by kernel_rfl) (by kernel_rfl) (by kernel_rfl) (fun _ _ _ h => h) (Or.inr ⟨by kernel_rfl, rfl⟩) (by assumption) ?_
    try simp only [Act.put, List.setIfInBounds_toArray, List.set_cons_zero, List.set_cons_succ]
    refine wpAnyH_takeD (i := 13) (d := 92) (v := undef) rfl (by kernel_rfl) (by kernel_rfl) (by kernel_rfl) (by kernel_rfl) (fun _ _ _ h => h) (Or.inr ⟨by kernel_rfl, rfl⟩) (by assumption) ?_
    try simp only [Act.put, List.setIfInBounds_toArray, List.set_cons_zero, List.set_cons_succ]
    refine wpAnyH_takeD (i := 14) (d := 93) (v := undef) rfl (by kernel_rfl) (by kernel_rfl) (by kernel_rfl) (by kernel_rfl) (fun _ _ _ h => h) (Or.inr ⟨by kernel_rfl, rfl⟩) (by assumption) ?_
    try simp only [Act.put, List.setIfInBounds_toArray, List.set_cons_zero, List.set_cons_succ]
    refine wpAnyH_takeD (i := 15) (d := 94) (v := undef) rfl (by kernel_rfl) (by kernel_rfl) (by kernel_rfl) (by kernel_rfl) (fun _ _ _ h => h) (Or.inr ⟨by kernel_rfl, rfl⟩) (by assumption) ?_
    try simp only [Act.put, List.setIfInBounds_toArray, List.set_cons_zero, List.set_cons_succ]
    refine wpAnyH_takeD (i := 16) (d := 95) (v := undef) rfl (by kernel_rfl) (by kernel_rfl) (by kernel_rfl) (by kernel_rfl) (fun _ _ _ h => h) (Or.inr ⟨by kernel_rfl, rfl⟩) (by assumption) ?_
    try simp only [Act.put, List.setIfInBounds_toArray, List.set_cons_zero, List.set_cons_succ]
    refine wpAnyH_takeD (i := 17) (d := 96) (oi := { dst := some 96, op := Op.pick (Operand.tmp 92) (Operand.tmp 95) (Operand.const (Value.bool false)), type := 4, pos := "extra.go:50", after := #[{ on := 13, ground := Ground.data }, { on := 16, ground := Ground.data }, { on := 9, ground := Ground.guard }], guard := some (9, false) }) (v := undef) rfl (by kernel_rfl) (by kernel_rfl) (by kernel_rfl) (by kernel_rfl) (fun _ _ _ h => h) (Or.inr ⟨by kernel_rfl, rfl⟩) (by assumption) ?_
    try simp only [Act.put, List.setIfInBounds_toArray, List.set_cons_zero, List.set_cons_succ]
    refine wpAnyH_takeD (i := 18) (d := 97) (oi := { dst := some 97, op := Op.pick (Operand.tmp 88) (Operand.const (Value.bool true)) (Operand.tmp 96), type := 4, pos := "extra.go:50", after := #[{ on := 9, ground := Ground.data }, { on := 17, ground := Ground.data }, { on := 5, ground := Ground.guard }], guard := some (5, true) }) (v := ?_) rfl (by kernel_rfl) (by kernel_rfl) (by kernel_rfl) (by kernel_rfl) (fun _ _ _ h => h) (Or.inl ⟨by kernel_rfl, ?_⟩) (by assumption) ?_
    rotate_left
    · intro w hSw; (try dsimp only at hSw); go_simp; (try with_reducible rfl)
    try simp only [Act.put, List.setIfInBounds_toArray, List.set_cons_zero, List.set_cons_succ]
    refine wpAnyH_takeD (i := 19) (d := 98) (oi := { dst := some 98, op := Op.pick (Operand.tmp 84) (Operand.tmp 97) (Operand.const (Value.bool false)), type := 4, pos := "extra.go:50", after := #[{ on := 5, ground := Ground.data }, { on := 18, ground := Ground.data }], guard := none }) (v := ?_) rfl (by kernel_rfl) (by kernel_rfl) (by kernel_rfl) (by kernel_rfl) (fun _ _ _ h => h) (Or.inl ⟨by kernel_rfl, ?_⟩) (by assumption) ?_
    rotate_left
    · intro w hSw; (try dsimp only at hSw); go_simp; (try with_reducible rfl)
    try simp only [Act.put, List.setIfInBounds_toArray, List.set_cons_zero, List.set_cons_succ]
    refine wpAnyH_takeD (i := 20) (d := 4) (oi := { dst := some 4, op := Op.assign (Operand.tmp 98), type := 4, pos := "extra.go:50", after := #[{ on := 19, ground := Ground.data }, { on := 16, ground := Ground.chain }, { on := 0, ground := Ground.phase }, { on := 1, ground := Ground.phase }, { on := 2, ground := Ground.phase }, { on := 3, ground := Ground.phase }, { on := 4, ground := Ground.phase }, { on := 5, ground := Ground.phase }, { on := 6, ground := Ground.phase }, { on := 7, ground := Ground.phase }, { on := 8, ground := Ground.phase }, { on := 9, ground := Ground.phase }, { on := 10, ground := Ground.phase }, { on := 11, ground := Ground.phase }, { on := 12, ground := Ground.phase }, { on := 13, ground := Ground.phase }, { on := 14, ground := Ground.phase }, { on := 15, ground := Ground.phase }, { on := 16, ground := Ground.phase }, { on := 17, ground := Ground.phase }, { on := 18, ground := Ground.phase }, { on := 19, ground := Ground.phase }], guard := none }) (v := ?_) rfl (by kernel_rfl) (by kernel_rfl) (by kernel_rfl) (by kernel_rfl) (fun _ _ _ h => h) (Or.inl ⟨by kernel_rfl, ?_⟩) (by assumption) ?_
    rotate_left
    · intro w hSw; (try dsimp only at hSw); go_simp; (try with_reducible rfl)
    try simp only [Act.put, List.setIfInBounds_toArray, List.set_cons_zero, List.set_cons_succ]
    refine wpAnyH_done (by kernel_rfl) ?_ _
    go_wp2
    go_ret
    exact ⟨rfl, (by assumption : _ ∧ _ ∧ _ ∧ _ ∧ _ ∧ _ ∧ _ ∧ _ ∧ _ ∧ _ ∧ _ ∧ _ ∧ _ ∧ _ ∧ _ ∧ Kp w _).2.2.2.2.2.2.2.2.2.2.2.2.2.2.2.below⟩

end Go.Proofs.YtecgjhjglklcnaaDoor
