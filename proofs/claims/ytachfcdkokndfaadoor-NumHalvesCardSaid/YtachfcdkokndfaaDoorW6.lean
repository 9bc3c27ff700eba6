/-
  The law NumHalves: put together.
-/
import Derived.Test.YtachfcdkokndfaaDoorW5
namespace Go.Proofs.YtachfcdkokndfaaDoor
open Go.RowKit Go.Shelf Go.Sort
theorem bits_of (x y : UInt64) (h : canon x = y) (w : World) : Calls Tryd.prog 26 #[.float .f64 (fb x)] w fun e w' => e = .returned (.int .u64 (n64 y)) ∧ w' = w := by rw [← h]; exact bitsF_any x w
theorem class_of (x : UInt64) (c : Int) (h : classOf x = c) (w : World) : Calls Tryd.prog 21 #[.float .f64 (fb x)] w fun e w' => e = .returned (.int .i64 c) ∧ w' = w := by rw [← h]; exact class_any x w
theorem mul1_any (x : UInt64) (w : World) : Calls Tryd.prog 41 #[.float .f64 (fb x), .float .f64 4607182418800017408] w (Quiet w (.float .f64 (fb (canon x)))) := by
  have := mul_any x 4607182418800017408 w
  rw [mul_one_w] at this; exact this
theorem div1_any (x : UInt64) (w : World) : Calls Tryd.prog 42 #[.float .f64 (fb x), .float .f64 4607182418800017408] w (Quiet w (.float .f64 (fb (canon x)))) := by
  have := div_any x 4607182418800017408 w
  rw [div_one_w] at this; exact this
theorem turn_add (x y : UInt64) (w : World) : Calls Tryd.prog 38 #[.float .f64 (fb y), .float .f64 (fb x)] w (Quiet w (.float .f64 (fb (opOf .add x y)))) := by
  rw [add_comm_w]; exact add_any y x w
theorem turn_mul (x y : UInt64) (w : World) : Calls Tryd.prog 41 #[.float .f64 (fb y), .float .f64 (fb x)] w (Quiet w (.float .f64 (fb (opOf .mul x y)))) := by
  rw [mul_comm_w]; exact mul_any y x w
theorem ends_le (x y : UInt64) : cmpOf (leastOf x y) (mostOf x y) ≤ 0 := by
  rw [cmp_le]
  have h1 := rk_least x y
  have h2 := rk_most x y
  unfold rk at h1 h2
  omega
theorem numHalves_walk (x y : UInt64) (w : World) (hT : Laid w) : Calls Tryd.prog 14 #[.float .f64 (fb x), .float .f64 (fb y)] w fun e w' => e = .returned (.bool true) ∧ Below w.heap.size w w' := by
  have hle : decide (cmpOf (leastOf x y) (mostOf x y) ≤ 0) = true := decide_eq_true (ends_le x y)
  obtain ⟨s1, s2⟩ := sub_self_w x
  have he := edge_iff x
  have hc0 : canon 0 = 0 := canon0
  by_cases hs : 0 < cmpOf x y
  · have hL : canon (leastOf x y) = canon y := by unfold leastOf; rw [if_pos hs, canon_canon]
    have hG : canon (mostOf x y) = canon x := by unfold mostOf; rw [if_neg (by omega), canon_canon]
    have hne : (n64 (canon y) == n64 (canon x)) = false := by
      rw [nn_eq]; exact decide_eq_false (fun h => by have := (cmp_zero x y).2 h.symm; omega)
    by_cases h0 : classOf x = 0
    · have hk : classOf (opOf .sub x x) = 0 := by rw [s2 (he.1 (.inl h0))]; decide +kernel
      exact numHalves_0t x y _ _ _ (canon x) (canon y) (leastOf x y) (mostOf x y) _ hne w hT (fun W => add_any x y W) (fun W => turn_add x y W) (fun W => mul_any x y W) (fun W => turn_mul x y W) (fun W => sub_any x x W) (fun W => mul1_any x W) (fun W => div1_any x W)
        (fun W => bitsF_any _ W) (fun W => bitsF_any _ W) (fun W => bitsF_any _ W) (fun W => class_of _ _ hk W) (fun W => bitsF_any x W) (fun W => bitsF_any y W) (fun W => bits_of _ _ hL W) (fun W => bits_of _ _ hG W) (fun W => bits_of _ _ (canon_canon x) W) (fun W => least_any x y W) (fun W => most_any x y W) (fun W => compare_any _ _ W) hle (fun W => class_of x 0 h0 W)
    by_cases h1 : classOf x = 1
    · have hk : classOf (opOf .sub x x) = 0 := by rw [s2 (he.1 (.inr (.inl h1)))]; decide +kernel
      exact numHalves_1t x y _ _ _ (canon x) (canon y) (leastOf x y) (mostOf x y) _ hne w hT (fun W => add_any x y W) (fun W => turn_add x y W) (fun W => mul_any x y W) (fun W => turn_mul x y W) (fun W => sub_any x x W) (fun W => mul1_any x W) (fun W => div1_any x W)
        (fun W => bitsF_any _ W) (fun W => bitsF_any _ W) (fun W => bitsF_any _ W) (fun W => class_of _ _ hk W) (fun W => bitsF_any x W) (fun W => bitsF_any y W) (fun W => bits_of _ _ hL W) (fun W => bits_of _ _ hG W) (fun W => bits_of _ _ (canon_canon x) W) (fun W => least_any x y W) (fun W => most_any x y W) (fun W => compare_any _ _ W) hle (fun W => class_of x 1 h1 W)
    by_cases h8 : classOf x = 8
    · have hk : classOf (opOf .sub x x) = 0 := by rw [s2 (he.1 (.inr (.inr h8)))]; decide +kernel
      exact numHalves_8t x y _ _ _ (canon x) (canon y) (leastOf x y) (mostOf x y) _ hne w hT (fun W => add_any x y W) (fun W => turn_add x y W) (fun W => mul_any x y W) (fun W => turn_mul x y W) (fun W => sub_any x x W) (fun W => mul1_any x W) (fun W => div1_any x W)
        (fun W => bitsF_any _ W) (fun W => bitsF_any _ W) (fun W => bitsF_any _ W) (fun W => class_of _ _ hk W) (fun W => bitsF_any x W) (fun W => bitsF_any y W) (fun W => bits_of _ _ hL W) (fun W => bits_of _ _ hG W) (fun W => bits_of _ _ (canon_canon x) W) (fun W => least_any x y W) (fun W => most_any x y W) (fun W => compare_any _ _ W) hle (fun W => class_of x 8 h8 W)
    have hfin : magN x < 9218868437227405312 := by
      by_cases h : magN x < 9218868437227405312
      · exact h
      · rcases he.2 h with h | h | h
        · exact absurd h h0
        · exact absurd h h1
        · exact absurd h h8
    exact numHalves_nt x y _ _ _ (canon x) (canon y) (leastOf x y) (mostOf x y) _ (classOf x) (beq_eq_false_iff_ne.2 h0) (beq_eq_false_iff_ne.2 h1) (beq_eq_false_iff_ne.2 h8) hne w hT (fun W => add_any x y W) (fun W => turn_add x y W) (fun W => mul_any x y W) (fun W => turn_mul x y W) (fun W => sub_any x x W) (fun W => mul1_any x W) (fun W => div1_any x W)
        (fun W => bitsF_any _ W) (fun W => bitsF_any _ W) (fun W => bits_of _ 0 (by rw [s1 hfin]; exact hc0) W) (fun W => bitsF_any x W) (fun W => bitsF_any y W) (fun W => bits_of _ _ hL W) (fun W => bits_of _ _ hG W) (fun W => bits_of _ _ (canon_canon x) W) (fun W => least_any x y W) (fun W => most_any x y W) (fun W => compare_any _ _ W) hle (fun W => class_any x W)
  · have hL : canon (leastOf x y) = canon x := by unfold leastOf; rw [if_neg hs, canon_canon]
    have hG : canon (mostOf x y) = canon y := by
      unfold mostOf
      by_cases h : cmpOf x y < 0
      · rw [if_pos h, canon_canon]
      · rw [if_neg h, canon_canon]; exact (cmp_zero x y).1 (by omega)
    by_cases h0 : classOf x = 0
    · have hk : classOf (opOf .sub x x) = 0 := by rw [s2 (he.1 (.inl h0))]; decide +kernel
      exact numHalves_0f x y _ _ _ (canon x) (canon y) (leastOf x y) (mostOf x y) _ w hT (fun W => add_any x y W) (fun W => turn_add x y W) (fun W => mul_any x y W) (fun W => turn_mul x y W) (fun W => sub_any x x W) (fun W => mul1_any x W) (fun W => div1_any x W)
        (fun W => bitsF_any _ W) (fun W => bitsF_any _ W) (fun W => bitsF_any _ W) (fun W => class_of _ _ hk W) (fun W => bitsF_any x W) (fun W => bitsF_any y W) (fun W => bits_of _ _ hL W) (fun W => bits_of _ _ hG W) (fun W => bits_of _ _ (canon_canon x) W) (fun W => least_any x y W) (fun W => most_any x y W) (fun W => compare_any _ _ W) hle (fun W => class_of x 0 h0 W)
    by_cases h1 : classOf x = 1
    · have hk : classOf (opOf .sub x x) = 0 := by rw [s2 (he.1 (.inr (.inl h1)))]; decide +kernel
      exact numHalves_1f x y _ _ _ (canon x) (canon y) (leastOf x y) (mostOf x y) _ w hT (fun W => add_any x y W) (fun W => turn_add x y W) (fun W => mul_any x y W) (fun W => turn_mul x y W) (fun W => sub_any x x W) (fun W => mul1_any x W) (fun W => div1_any x W)
        (fun W => bitsF_any _ W) (fun W => bitsF_any _ W) (fun W => bitsF_any _ W) (fun W => class_of _ _ hk W) (fun W => bitsF_any x W) (fun W => bitsF_any y W) (fun W => bits_of _ _ hL W) (fun W => bits_of _ _ hG W) (fun W => bits_of _ _ (canon_canon x) W) (fun W => least_any x y W) (fun W => most_any x y W) (fun W => compare_any _ _ W) hle (fun W => class_of x 1 h1 W)
    by_cases h8 : classOf x = 8
    · have hk : classOf (opOf .sub x x) = 0 := by rw [s2 (he.1 (.inr (.inr h8)))]; decide +kernel
      exact numHalves_8f x y _ _ _ (canon x) (canon y) (leastOf x y) (mostOf x y) _ w hT (fun W => add_any x y W) (fun W => turn_add x y W) (fun W => mul_any x y W) (fun W => turn_mul x y W) (fun W => sub_any x x W) (fun W => mul1_any x W) (fun W => div1_any x W)
        (fun W => bitsF_any _ W) (fun W => bitsF_any _ W) (fun W => bitsF_any _ W) (fun W => class_of _ _ hk W) (fun W => bitsF_any x W) (fun W => bitsF_any y W) (fun W => bits_of _ _ hL W) (fun W => bits_of _ _ hG W) (fun W => bits_of _ _ (canon_canon x) W) (fun W => least_any x y W) (fun W => most_any x y W) (fun W => compare_any _ _ W) hle (fun W => class_of x 8 h8 W)
    have hfin : magN x < 9218868437227405312 := by
      by_cases h : magN x < 9218868437227405312
      · exact h
      · rcases he.2 h with h | h | h
        · exact absurd h h0
        · exact absurd h h1
        · exact absurd h h8
    exact numHalves_nf x y _ _ _ (canon x) (canon y) (leastOf x y) (mostOf x y) _ (classOf x) (beq_eq_false_iff_ne.2 h0) (beq_eq_false_iff_ne.2 h1) (beq_eq_false_iff_ne.2 h8) w hT (fun W => add_any x y W) (fun W => turn_add x y W) (fun W => mul_any x y W) (fun W => turn_mul x y W) (fun W => sub_any x x W) (fun W => mul1_any x W) (fun W => div1_any x W)
        (fun W => bitsF_any _ W) (fun W => bitsF_any _ W) (fun W => bits_of _ 0 (by rw [s1 hfin]; exact hc0) W) (fun W => bitsF_any x W) (fun W => bitsF_any y W) (fun W => bits_of _ _ hL W) (fun W => bits_of _ _ hG W) (fun W => bits_of _ _ (canon_canon x) W) (fun W => least_any x y W) (fun W => most_any x y W) (fun W => compare_any _ _ W) hle (fun W => class_any x W)
end Go.Proofs.YtachfcdkokndfaaDoor
