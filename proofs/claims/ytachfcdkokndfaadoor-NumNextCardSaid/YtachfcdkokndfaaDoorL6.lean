/-
  The walk of the law NumNext.
-/
import Derived.Test.YtachfcdkokndfaaDoorL5
namespace Go.Proofs.YtachfcdkokndfaaDoor
open Go.RowKit Go.Shelf Go.Sort
theorem wr64_one (x : UInt64) : IntKind.u64.wrap (n64 x + 1) = n64 (x + 1) := wr64_add x 1
attribute [local go_sem high] wr64_one
set_option maxHeartbeats 1000000 in
theorem numNext_bad (r a b x Ra Rb : UInt64) (w : World) (hT : Laid w) (m1 m2 m3 : Bool) (e1 : (n64 r == 18446744073709551615) = m1) (e2 : (n64 Ra != n64 r) = m2) (e3 : (n64 Rb != n64 (r + 1)) = m3)
    (hm : m1 = true ∨ (m1 = false ∧ m2 = true) ∨ (m1 = false ∧ m2 = false ∧ m3 = true))
    (HA : Hid (∀ W, Calls Tryd.prog 31 #[.int .u64 (n64 r)] W fun e w' => e = .returned (.float .f64 (fb a)) ∧ w' = W))
    (HB : Hid (∀ W, Calls Tryd.prog 31 #[.int .u64 (n64 (r + 1))] W fun e w' => e = .returned (.float .f64 (fb b)) ∧ w' = W))
    (HRa : Hid (∀ W, Calls Tryd.prog 29 #[.float .f64 (fb a)] W fun e w' => e = .returned (.int .u64 (n64 Ra)) ∧ w' = W))
    (HRb : Hid (∀ W, Calls Tryd.prog 29 #[.float .f64 (fb b)] W fun e w' => e = .returned (.int .u64 (n64 Rb)) ∧ w' = W)) :
    Calls Tryd.prog 10 #[.int .u64 (n64 r), .float .f64 (fb x)] w fun e w' => e = .returned (.bool true) ∧ Below w.heap.size w w' := by
  rcases hm with rfl | ⟨rfl, rfl⟩ | ⟨rfl, rfl, rfl⟩
  · clear e2 e3
    go_enter Tryd.func10, Tryd.ntmps10
    go_wp2_with fail
    go_at_call 15
    refine (first_any _ hT).mono ?_
    rintro e w1 ⟨rfl, hb1⟩
    go_wp2_with (first | (go_at_call 31; ((with_reducible refine (HA.out _).mono ?_); rintro e w' ⟨rfl, rfl⟩)) | (go_at_call 31; ((with_reducible refine (HB.out _).mono ?_); rintro e w' ⟨rfl, rfl⟩)) | (go_at_call 29; ((with_reducible refine (HRa.out _).mono ?_); rintro e w' ⟨rfl, rfl⟩)) | (go_at_call 29; ((with_reducible refine (HRb.out _).mono ?_); rintro e w' ⟨rfl, rfl⟩)) | (go_at_call 33; ((with_reducible refine (Hax.out _).mono ?_); rintro e w' ⟨rfl, rfl⟩)) | (go_at_call 33; ((with_reducible refine (Hxb.out _).mono ?_); rintro e w' ⟨rfl, rfl⟩)) | (go_at_call 33; ((with_reducible refine (HAB.out _).mono ?_); rintro e w' ⟨rfl, rfl⟩)))
    go_at_call 15
    refine (first_any _ (hT.below hb1)).mono ?_
    rintro e w2 ⟨rfl, hb2⟩
    have hb3 := hb1.trans (hb2.mono hb1.size)
    clear hb1 hb2
    go_wp2_with (first | (go_at_call 31; ((with_reducible refine (HA.out _).mono ?_); rintro e w' ⟨rfl, rfl⟩)) | (go_at_call 31; ((with_reducible refine (HB.out _).mono ?_); rintro e w' ⟨rfl, rfl⟩)) | (go_at_call 29; ((with_reducible refine (HRa.out _).mono ?_); rintro e w' ⟨rfl, rfl⟩)) | (go_at_call 29; ((with_reducible refine (HRb.out _).mono ?_); rintro e w' ⟨rfl, rfl⟩)) | (go_at_call 33; ((with_reducible refine (Hax.out _).mono ?_); rintro e w' ⟨rfl, rfl⟩)) | (go_at_call 33; ((with_reducible refine (Hxb.out _).mono ?_); rintro e w' ⟨rfl, rfl⟩)) | (go_at_call 33; ((with_reducible refine (HAB.out _).mono ?_); rintro e w' ⟨rfl, rfl⟩)))
    go_ret
    exact ⟨rfl, hb3⟩
  · clear e3
    go_enter Tryd.func10, Tryd.ntmps10
    go_wp2_with fail
    go_at_call 15
    refine (first_any _ hT).mono ?_
    rintro e w1 ⟨rfl, hb1⟩
    go_wp2_with (first | (go_at_call 31; ((with_reducible refine (HA.out _).mono ?_); rintro e w' ⟨rfl, rfl⟩)) | (go_at_call 31; ((with_reducible refine (HB.out _).mono ?_); rintro e w' ⟨rfl, rfl⟩)) | (go_at_call 29; ((with_reducible refine (HRa.out _).mono ?_); rintro e w' ⟨rfl, rfl⟩)) | (go_at_call 29; ((with_reducible refine (HRb.out _).mono ?_); rintro e w' ⟨rfl, rfl⟩)) | (go_at_call 33; ((with_reducible refine (Hax.out _).mono ?_); rintro e w' ⟨rfl, rfl⟩)) | (go_at_call 33; ((with_reducible refine (Hxb.out _).mono ?_); rintro e w' ⟨rfl, rfl⟩)) | (go_at_call 33; ((with_reducible refine (HAB.out _).mono ?_); rintro e w' ⟨rfl, rfl⟩)))
    go_at_call 15
    refine (first_any _ (hT.below hb1)).mono ?_
    rintro e w2 ⟨rfl, hb2⟩
    have hb3 := hb1.trans (hb2.mono hb1.size)
    clear hb1 hb2
    go_wp2_with (first | (go_at_call 31; ((with_reducible refine (HA.out _).mono ?_); rintro e w' ⟨rfl, rfl⟩)) | (go_at_call 31; ((with_reducible refine (HB.out _).mono ?_); rintro e w' ⟨rfl, rfl⟩)) | (go_at_call 29; ((with_reducible refine (HRa.out _).mono ?_); rintro e w' ⟨rfl, rfl⟩)) | (go_at_call 29; ((with_reducible refine (HRb.out _).mono ?_); rintro e w' ⟨rfl, rfl⟩)) | (go_at_call 33; ((with_reducible refine (Hax.out _).mono ?_); rintro e w' ⟨rfl, rfl⟩)) | (go_at_call 33; ((with_reducible refine (Hxb.out _).mono ?_); rintro e w' ⟨rfl, rfl⟩)) | (go_at_call 33; ((with_reducible refine (HAB.out _).mono ?_); rintro e w' ⟨rfl, rfl⟩)))
    go_ret
    exact ⟨rfl, hb3⟩
  ·
    go_enter Tryd.func10, Tryd.ntmps10
    go_wp2_with fail
    go_at_call 15
    refine (first_any _ hT).mono ?_
    rintro e w1 ⟨rfl, hb1⟩
    go_wp2_with (first | (go_at_call 31; ((with_reducible refine (HA.out _).mono ?_); rintro e w' ⟨rfl, rfl⟩)) | (go_at_call 31; ((with_reducible refine (HB.out _).mono ?_); rintro e w' ⟨rfl, rfl⟩)) | (go_at_call 29; ((with_reducible refine (HRa.out _).mono ?_); rintro e w' ⟨rfl, rfl⟩)) | (go_at_call 29; ((with_reducible refine (HRb.out _).mono ?_); rintro e w' ⟨rfl, rfl⟩)) | (go_at_call 33; ((with_reducible refine (Hax.out _).mono ?_); rintro e w' ⟨rfl, rfl⟩)) | (go_at_call 33; ((with_reducible refine (Hxb.out _).mono ?_); rintro e w' ⟨rfl, rfl⟩)) | (go_at_call 33; ((with_reducible refine (HAB.out _).mono ?_); rintro e w' ⟨rfl, rfl⟩)))
    go_at_call 15
    refine (first_any _ (hT.below hb1)).mono ?_
    rintro e w2 ⟨rfl, hb2⟩
    have hb3 := hb1.trans (hb2.mono hb1.size)
    clear hb1 hb2
    go_wp2_with (first | (go_at_call 31; ((with_reducible refine (HA.out _).mono ?_); rintro e w' ⟨rfl, rfl⟩)) | (go_at_call 31; ((with_reducible refine (HB.out _).mono ?_); rintro e w' ⟨rfl, rfl⟩)) | (go_at_call 29; ((with_reducible refine (HRa.out _).mono ?_); rintro e w' ⟨rfl, rfl⟩)) | (go_at_call 29; ((with_reducible refine (HRb.out _).mono ?_); rintro e w' ⟨rfl, rfl⟩)) | (go_at_call 33; ((with_reducible refine (Hax.out _).mono ?_); rintro e w' ⟨rfl, rfl⟩)) | (go_at_call 33; ((with_reducible refine (Hxb.out _).mono ?_); rintro e w' ⟨rfl, rfl⟩)) | (go_at_call 33; ((with_reducible refine (HAB.out _).mono ?_); rintro e w' ⟨rfl, rfl⟩)))
    go_ret
    exact ⟨rfl, hb3⟩

set_option maxHeartbeats 1000000 in
theorem numNext_core (r a b x Ra Rb : UInt64) (w : World) (hT : Laid w) (ax xb : Int) (e1 : (n64 r == 18446744073709551615) = false) (e2 : (n64 Ra != n64 r) = false) (e3 : (n64 Rb != n64 (r + 1)) = false)
    (d1 d2 : Bool) (q1 : decide (ax < 0) = d1) (q2 : decide (xb < 0) = d2) (hno : d1 = true → d2 = false)
    (HA : Hid (∀ W, Calls Tryd.prog 31 #[.int .u64 (n64 r)] W fun e w' => e = .returned (.float .f64 (fb a)) ∧ w' = W))
    (HB : Hid (∀ W, Calls Tryd.prog 31 #[.int .u64 (n64 (r + 1))] W fun e w' => e = .returned (.float .f64 (fb b)) ∧ w' = W))
    (HRa : Hid (∀ W, Calls Tryd.prog 29 #[.float .f64 (fb a)] W fun e w' => e = .returned (.int .u64 (n64 Ra)) ∧ w' = W))
    (HRb : Hid (∀ W, Calls Tryd.prog 29 #[.float .f64 (fb b)] W fun e w' => e = .returned (.int .u64 (n64 Rb)) ∧ w' = W))
    (Hax : Hid (∀ W, Calls Tryd.prog 33 #[.float .f64 (fb a), .float .f64 (fb x)] W fun e w' => e = .returned (.int .i64 ax) ∧ w' = W))
    (Hxb : Hid (∀ W, Calls Tryd.prog 33 #[.float .f64 (fb x), .float .f64 (fb b)] W fun e w' => e = .returned (.int .i64 xb) ∧ w' = W))
    (HAB : Hid (∀ W, Calls Tryd.prog 33 #[.float .f64 (fb a), .float .f64 (fb b)] W fun e w' => e = .returned (.int .i64 (-1)) ∧ w' = W)) :
    Calls Tryd.prog 10 #[.int .u64 (n64 r), .float .f64 (fb x)] w fun e w' => e = .returned (.bool true) ∧ Below w.heap.size w w' := by
  cases d1
  case true =>
    have hd := hno rfl
    subst hd
    clear hno
    go_enter Tryd.func10, Tryd.ntmps10
    go_wp2_with fail
    go_at_call 15
    refine (first_any _ hT).mono ?_
    rintro e w1 ⟨rfl, hb1⟩
    go_wp2_with (first | (go_at_call 31; ((with_reducible refine (HA.out _).mono ?_); rintro e w' ⟨rfl, rfl⟩)) | (go_at_call 31; ((with_reducible refine (HB.out _).mono ?_); rintro e w' ⟨rfl, rfl⟩)) | (go_at_call 29; ((with_reducible refine (HRa.out _).mono ?_); rintro e w' ⟨rfl, rfl⟩)) | (go_at_call 29; ((with_reducible refine (HRb.out _).mono ?_); rintro e w' ⟨rfl, rfl⟩)) | (go_at_call 33; ((with_reducible refine (Hax.out _).mono ?_); rintro e w' ⟨rfl, rfl⟩)) | (go_at_call 33; ((with_reducible refine (Hxb.out _).mono ?_); rintro e w' ⟨rfl, rfl⟩)) | (go_at_call 33; ((with_reducible refine (HAB.out _).mono ?_); rintro e w' ⟨rfl, rfl⟩)))
    go_at_call 15
    refine (first_any _ (hT.below hb1)).mono ?_
    rintro e w2 ⟨rfl, hb2⟩
    have hb3 := hb1.trans (hb2.mono hb1.size)
    clear hb1 hb2
    go_wp2_with (first | (go_at_call 31; ((with_reducible refine (HA.out _).mono ?_); rintro e w' ⟨rfl, rfl⟩)) | (go_at_call 31; ((with_reducible refine (HB.out _).mono ?_); rintro e w' ⟨rfl, rfl⟩)) | (go_at_call 29; ((with_reducible refine (HRa.out _).mono ?_); rintro e w' ⟨rfl, rfl⟩)) | (go_at_call 29; ((with_reducible refine (HRb.out _).mono ?_); rintro e w' ⟨rfl, rfl⟩)) | (go_at_call 33; ((with_reducible refine (Hax.out _).mono ?_); rintro e w' ⟨rfl, rfl⟩)) | (go_at_call 33; ((with_reducible refine (Hxb.out _).mono ?_); rintro e w' ⟨rfl, rfl⟩)) | (go_at_call 33; ((with_reducible refine (HAB.out _).mono ?_); rintro e w' ⟨rfl, rfl⟩)))
    go_ret
    exact ⟨rfl, hb3⟩
  case false =>
    clear hno q2
    go_enter Tryd.func10, Tryd.ntmps10
    go_wp2_with fail
    go_at_call 15
    refine (first_any _ hT).mono ?_
    rintro e w1 ⟨rfl, hb1⟩
    go_wp2_with (first | (go_at_call 31; ((with_reducible refine (HA.out _).mono ?_); rintro e w' ⟨rfl, rfl⟩)) | (go_at_call 31; ((with_reducible refine (HB.out _).mono ?_); rintro e w' ⟨rfl, rfl⟩)) | (go_at_call 29; ((with_reducible refine (HRa.out _).mono ?_); rintro e w' ⟨rfl, rfl⟩)) | (go_at_call 29; ((with_reducible refine (HRb.out _).mono ?_); rintro e w' ⟨rfl, rfl⟩)) | (go_at_call 33; ((with_reducible refine (Hax.out _).mono ?_); rintro e w' ⟨rfl, rfl⟩)) | (go_at_call 33; ((with_reducible refine (Hxb.out _).mono ?_); rintro e w' ⟨rfl, rfl⟩)) | (go_at_call 33; ((with_reducible refine (HAB.out _).mono ?_); rintro e w' ⟨rfl, rfl⟩)))
    go_at_call 15
    refine (first_any _ (hT.below hb1)).mono ?_
    rintro e w2 ⟨rfl, hb2⟩
    have hb3 := hb1.trans (hb2.mono hb1.size)
    clear hb1 hb2
    go_wp2_with (first | (go_at_call 31; ((with_reducible refine (HA.out _).mono ?_); rintro e w' ⟨rfl, rfl⟩)) | (go_at_call 31; ((with_reducible refine (HB.out _).mono ?_); rintro e w' ⟨rfl, rfl⟩)) | (go_at_call 29; ((with_reducible refine (HRa.out _).mono ?_); rintro e w' ⟨rfl, rfl⟩)) | (go_at_call 29; ((with_reducible refine (HRb.out _).mono ?_); rintro e w' ⟨rfl, rfl⟩)) | (go_at_call 33; ((with_reducible refine (Hax.out _).mono ?_); rintro e w' ⟨rfl, rfl⟩)) | (go_at_call 33; ((with_reducible refine (Hxb.out _).mono ?_); rintro e w' ⟨rfl, rfl⟩)) | (go_at_call 33; ((with_reducible refine (HAB.out _).mono ?_); rintro e w' ⟨rfl, rfl⟩)))
    go_ret
    exact ⟨rfl, hb3⟩

theorem numNext_walk (r x : UInt64) (w : World) (hT : Laid w) : Calls Tryd.prog 10 #[.int .u64 (n64 r), .float .f64 (fb x)] w fun e w' => e = .returned (.bool true) ∧ Below w.heap.size w w' := by
  by_cases h : (rankOf (backOf r) = r ∧ rankOf (backOf (r + 1)) = r + 1) ∧ r ≠ 18446744073709551615
  · obtain ⟨⟨h1, h2⟩, h3⟩ := h
    have hr := r.toNat_lt
    have hne : r.toNat ≠ 18446744073709551615 := fun hc => h3 (u_eq_lit.2 hc)
    have hs : (r + 1).toNat = r.toNat + 1 := by rw [UInt64.toNat_add, show (1 : UInt64).toNat = 1 from rfl, Nat.mod_eq_of_lt (by omega)]
    refine numNext_core r (backOf r) (backOf (r + 1)) x _ _ w hT (cmpOf (backOf r) x) (cmpOf x (backOf (r + 1))) (beq_eq_false_iff_ne.2 (fun hc => by have : (r.toNat : Int) = 18446744073709551615 := hc; omega)) (by rw [bne, n64_eq, h1]; simp) (by rw [bne, n64_eq, h2]; simp) _ _ rfl rfl (fun hd => ?_) (fun W => back_any r W) (fun W => back_any _ W) (fun W => rank_any _ W) (fun W => rank_any _ W) (fun W => compare_any _ _ W) (fun W => compare_any _ _ W) (fun W => ?_)
    · apply decide_eq_false
      have h4 := (cmp_lt (backOf r) x).1 (of_decide_eq_true hd)
      rw [h1] at h4
      intro hc
      have h5 := (cmp_lt x (backOf (r + 1))).1 hc
      rw [h2, hs] at h5
      omega
    · have := compare_any (backOf r) (backOf (r + 1)) W
      have hc : cmpOf (backOf r) (backOf (r + 1)) = -1 := by
        rcases cmp_cases (backOf r) (backOf (r + 1)) with ⟨h4, h5⟩ | ⟨h4, h5⟩ | ⟨h4, h5⟩
        · exact h4
        · rw [h1, h2, hs] at h5; omega
        · rw [h1, h2, hs] at h5; omega
      rw [hc] at this; exact this
  · have hbad : (n64 r == 18446744073709551615) = false → (n64 (rankOf (backOf r)) != n64 r) = false → (n64 (rankOf (backOf (r + 1))) != n64 (r + 1)) = false → False := by
      intro h1 h2 h3
      apply h
      refine ⟨⟨?_, ?_⟩, ?_⟩
      · rw [bne, n64_eq] at h2; simpa using h2
      · rw [bne, n64_eq] at h3; simpa using h3
      · rintro rfl; revert h1; decide
    refine numNext_bad r (backOf r) (backOf (r + 1)) x _ _ w hT _ _ _ rfl rfl rfl ?_ (fun W => back_any r W) (fun W => back_any _ W) (fun W => rank_any _ W) (fun W => rank_any _ W)
    cases h1 : (n64 r == 18446744073709551615)
    · cases h2 : (n64 (rankOf (backOf r)) != n64 r)
      · cases h3 : (n64 (rankOf (backOf (r + 1))) != n64 (r + 1))
        · exact (hbad h1 h2 h3).elim
        · exact .inr (.inr ⟨rfl, rfl, rfl⟩)
      · exact .inr (.inl ⟨rfl, rfl⟩)
    · exact .inl rfl
end Go.Proofs.YtachfcdkokndfaaDoor
