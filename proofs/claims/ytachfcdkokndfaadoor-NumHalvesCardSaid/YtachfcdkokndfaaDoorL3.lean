/-
  The walk of the law NumSigns.
-/
import Derived.Test.YtachfcdkokndfaaDoorNG
namespace Go.Proofs.YtachfcdkokndfaaDoor
open Go.RowKit Go.Shelf Go.Sort
attribute [local go_sem] bs_size bs_get bs_toList neg_run

/-! ### Turned round -/
theorem canon_xor (x : UInt64) (h : classOf x ≠ 0) : canon (x ^^^ topW) = canon x ^^^ topW := by
  have hx := x.toNat_lt
  have h9 : x.toNat % 9223372036854775808 ≤ 9218868437227405312 := by
    rcases Nat.lt_or_ge 9218868437227405312 (x.toNat % 9223372036854775808) with h' | h'
    · exfalso; apply h
      rw [class_nat, canon_nat, if_pos h']; decide
    · exact h'
  rw [canon_of h9, canon_of]
  rw [xortop_nat]
  split <;> omega
theorem nocls (x : UInt64) (h : classOf x ≠ 0) : (canon x).toNat % 9223372036854775808 ≤ 9218868437227405312 := by
  rcases canon_ok x with h' | h'
  · exact h'
  · exfalso; apply h
    rw [class_nat, h']; decide
theorem class_xor (x : UInt64) (h : classOf x ≠ 0) : classOf (x ^^^ topW) = 9 - classOf x := by
  have hc := canon_xor x h
  have hn := nocls x h
  have hx := (canon x).toNat_lt
  rw [class_nat, hc, xortop_nat, class_nat]
  generalize (canon x).toNat = n at *
  by_cases hb : 9223372036854775808 ≤ n
  · rw [if_pos hb]
    unfold clsN
    have e : (n - 9223372036854775808) % 9223372036854775808 = n % 9223372036854775808 := by omega
    rw [e, if_neg (show ¬ 9218868437227405312 < n % 9223372036854775808 by omega), if_neg (show ¬ 9223372036854775808 ≤ n - 9223372036854775808 by omega), if_neg (show ¬ 9218868437227405312 < n % 9223372036854775808 by omega), if_pos hb]
    omega
  · rw [if_neg hb]
    unfold clsN
    have e : (n + 9223372036854775808) % 9223372036854775808 = n % 9223372036854775808 := by omega
    rw [e, if_neg (show ¬ 9218868437227405312 < n % 9223372036854775808 by omega), if_pos (show 9223372036854775808 ≤ n + 9223372036854775808 by omega), if_neg (show ¬ 9218868437227405312 < n % 9223372036854775808 by omega), if_neg hb]
theorem mag_xor (x : UInt64) (h : classOf x ≠ 0) : magW (x ^^^ topW) = magW x := by
  rw [u_eq_lit, mag_nat, mag_nat, canon_xor x h, xortop_nat]
  have hx := (canon x).toNat_lt
  split <;> omega
/-- Without its sign. -/
def bodyOf (x : UInt64) : List UInt8 :=
  if classOf x = 1 ∨ classOf x = 8 then [105, 110, 102]
  else if classOf x = 4 ∨ classOf x = 5 then [48]
  else Lib.decDigits (partM (magW x)).toNat ++ [112] ++ Lib.itoa (partE (magW x))
theorem print_body (x : UInt64) (h : classOf x ≠ 0) : printOf x = signS x ++ bodyOf x := by
  unfold printOf bodyOf
  rw [if_neg h]
  split
  · rfl
  · split
    · rfl
    · simp
theorem body_xor (x : UInt64) (h : classOf x ≠ 0) : bodyOf (x ^^^ topW) = bodyOf x := by
  unfold bodyOf
  rw [class_xor x h, mag_xor x h]
  have e1 : (9 - classOf x = 1 ∨ 9 - classOf x = 8) ↔ (classOf x = 1 ∨ classOf x = 8) := by omega
  have e2 : (9 - classOf x = 4 ∨ 9 - classOf x = 5) ↔ (classOf x = 4 ∨ classOf x = 5) := by omega
  simp only [e1, e2]
theorem class_bd (x : UInt64) : 0 ≤ classOf x ∧ classOf x ≤ 8 := by
  rcases class_cases x with h | ⟨_, h1, h2⟩ | ⟨_, h1, h2⟩ <;> omega
/-- A number from nought up: it, and the one turned round. -/
theorem signs_pos (x : UInt64) (h : 5 ≤ classOf x) : printOf x = bodyOf x ∧ printOf (x ^^^ topW) = 45 :: bodyOf x ∧ classOf (x ^^^ topW) = 9 - classOf x := by
  have h0 : classOf x ≠ 0 := by omega
  have hc := class_xor x h0
  have hb := class_bd x
  refine ⟨?_, ?_, hc⟩
  · rw [print_body x h0, sign_pos h]; rfl
  · rw [print_body _ (by omega), sign_neg (by omega) (by omega), body_xor x h0]; rfl
theorem signs_neg (x : UInt64) (h0 : classOf x ≠ 0) (h : classOf x < 5) : printOf (x ^^^ topW) = bodyOf x ∧ printOf x = 45 :: bodyOf x := by
  have hc := class_xor x h0
  have hb := class_bd x
  refine ⟨?_, ?_⟩
  · rw [print_body _ (by omega), sign_pos (by omega), body_xor x h0]; rfl
  · rw [print_body x h0, sign_neg (by omega) (by omega)]; rfl
theorem class0_print (x : UInt64) (h : classOf x = 0) : printOf x = [110, 97, 110] := by unfold printOf; rw [if_pos h]
theorem parse_of_print (z : UInt64) (hl : (printOf z).length ≤ 4611686018427387904) (w : World) : Calls Tryd.prog 18 #[.string (bs (printOf z))] w fun e w' => e = .returned (.tuple #[.float .f64 (fb (canon z)), .int .i64 0]) ∧ ∃ nd, w' = w.drewN nd := by
  have := parse_any (printOf z) hl w
  rw [parse_print] at this; exact this
theorem print_len (x : UInt64) : (printOf x).length ≤ 64 := by
  have hs : (signS x).length ≤ 1 := signS_len x
  unfold printOf
  split
  · decide
  · split
    · simp; omega
    · split
      · simp; omega
      · rename_i h0 h1 h4
        have hf := fin_of x h0 h1 h4
        have h1 := nDigits_le (partM (magW x))
        have h2 := Lib.itoa_length_le (partE (magW x)) (by have := partE_bd _ hf.2; omega) (by have := partE_bd _ hf.2; omega)
        simp; omega

set_option maxHeartbeats 1000000 in
theorem numSigns_core (x z : UInt64) (c : Int) (T B : List UInt8) (w : World) (hT : Laid w) (up : Bool) (hup : up = decide (c < 5)) (hc0 : (c == 0) = false)
    (c1 : 1 ≤ c) (c2 : c ≤ 8) (hl : Hid (B.length ≤ 64)) (hTB : Hid (T = 45 :: B))
    (HC : Hid (∀ W, Calls Tryd.prog 21 #[.float .f64 (fb x)] W fun e w' => e = .returned (.int .i64 c) ∧ w' = W))
    (HP1 : Hid (∀ W, Laid W → Calls Tryd.prog 16 #[.float .f64 (fb x)] W fun e w' => e = .returned (.string (bs (if up then T else B))) ∧ Below W.heap.size W w'))
    (HP2 : Hid (∀ W, Laid W → Calls Tryd.prog 16 #[.float .f64 (fb (x ^^^ topW))] W fun e w' => e = .returned (.string (bs (if up then B else T))) ∧ Below W.heap.size W w'))
    (HPa : Hid (∀ W, Calls Tryd.prog 18 #[.string (bs T)] W fun e w' => e = .returned (.tuple #[.float .f64 (fb z), .int .i64 0]) ∧ ∃ nd, w' = W.drewN nd))
    (HC2 : Hid (∀ W, Calls Tryd.prog 21 #[.float .f64 (fb z)] W fun e w' => e = .returned (.int .i64 (9 - max c (9 - c))) ∧ w' = W)) :
    Calls Tryd.prog 5 #[.float .f64 (fb x)] w fun e w' => e = .returned (.bool true) ∧ Below w.heap.size w w' := by
  have J : ∀ W, (Op.stringOp .add ⟨#[45]⟩ (bs B)).run Tryd.prog W = .ok (.string (bs T)) W := fun W => by
    rw [hTB.out]; exact run_add_bs [45] B (by have := hl.out; simp; omega) W
  have hc5 := hup.symm
  clear hup
  cases up
  all_goals
    simp only [if_true, if_false, Bool.false_eq_true] at HP1 HP2
    go_enter Tryd.func5, Tryd.ntmps5
    go_wp2_with fail
    go_at_call 15
    refine (first_any _ hT).mono ?_
    rintro e w1 ⟨rfl, hb1⟩
    have hT1 := hT.below hb1
    go_wp2_with (go_at_call 21; ((with_reducible refine (HC.out _).mono ?_); rintro e w' ⟨rfl, rfl⟩))
    go_at_call 16
    refine (HP1.out _ hT1).mono ?_
    rintro e w2 ⟨rfl, hb2⟩
    have hT2 := hT1.below hb2
    go_wp2_with fail
    go_at_call 16
    refine (HP2.out _ hT2).mono ?_
    rintro e w3 ⟨rfl, hb3⟩
    have hT3 := hT2.below hb3
    have hbb := (hb1.trans (hb2.mono hb1.size)).trans (hb3.mono (Nat.le_trans hb1.size hb2.size))
    clear hb1 hb2 hb3
    go_wp2_with (go_at_call 18; ((with_reducible refine (HPa.out _).mono ?_); rintro e w' ⟨rfl, nd, rfl⟩))
    go_at_call 15
    refine (first_any _ (hT3.drewN _)).mono ?_
    rintro e w4 ⟨rfl, hb4⟩
    have hb5 : Below w.heap.size w w4 := (below_drewN hbb _).trans (hb4.mono hbb.size)
    clear hb4
    go_wp2_with (go_at_call 21; ((with_reducible refine (HC2.out _).mono ?_); rintro e w' ⟨rfl, rfl⟩))
    go_ret
    exact ⟨rfl, hb5⟩
theorem numSigns_walk (x : UInt64) (w : World) (hT : Laid w) : Calls Tryd.prog 5 #[.float .f64 (fb x)] w fun e w' => e = .returned (.bool true) ∧ Below w.heap.size w w' := by
  have hcb := class_bd x
  by_cases h0 : classOf x = 0
  · have HC : Hid (∀ W, Calls Tryd.prog 21 #[.float .f64 (fb x)] W fun e w' => e = .returned (.int .i64 0) ∧ w' = W) := fun W => by rw [← h0]; exact class_any x W
    have HP1 : Hid (∀ W, Laid W → Calls Tryd.prog 16 #[.float .f64 (fb x)] W fun e w' => e = .returned (.string (bs [110, 97, 110])) ∧ Below W.heap.size W w') := fun W hW => by rw [← class0_print x h0]; exact print_any x W hW
    clear h0 hcb
    go_enter Tryd.func5, Tryd.ntmps5
    go_wp2_with fail
    go_at_call 15
    refine (first_any _ hT).mono ?_
    rintro e w1 ⟨rfl, hb1⟩
    have hT1 := hT.below hb1
    go_wp2_with (go_at_call 21; ((with_reducible refine (HC.out _).mono ?_); rintro e w' ⟨rfl, rfl⟩))
    go_at_call 15
    refine (first_any _ hT1).mono ?_
    rintro e w2 ⟨rfl, hb2⟩
    have hT2 := hT1.below hb2
    go_wp2_with fail
    go_at_call 16
    refine (HP1.out _ hT2).mono ?_
    rintro e w3 ⟨rfl, hb3⟩
    have hbb := (hb1.trans (hb2.mono hb1.size)).trans (hb3.mono (Nat.le_trans hb1.size hb2.size))
    clear hb1 hb2 hb3
    go_wp2
    go_ret
    exact ⟨rfl, hbb⟩
  · have hlen : (bodyOf x).length ≤ 64 := by
      have := print_len x
      rw [print_body x h0, List.length_append] at this; omega
    by_cases h5 : classOf x < 5
    · obtain ⟨s1, s2⟩ := signs_neg x h0 h5
      refine numSigns_core x (canon x) (classOf x) (printOf x) (bodyOf x) w hT true (decide_eq_true h5).symm (beq_eq_false_iff_ne.2 h0) (by omega) hcb.2 hlen s2 (fun W => class_any x W) (fun W hW => print_any x W hW) (fun W hW => ?_) (fun W => parse_of_print x (Nat.le_trans (print_len x) (by decide)) W) (fun W => ?_)
      · rw [if_pos rfl, ← s1]; exact print_any _ W hW
      · have := class_any (canon x) W
        rw [class_canon] at this
        rw [show 9 - max (classOf x) (9 - classOf x) = classOf x by omega]; exact this
    · obtain ⟨s1, s2, s3⟩ := signs_pos x (by omega)
      refine numSigns_core x (canon (x ^^^ topW)) (classOf x) (printOf (x ^^^ topW)) (bodyOf x) w hT false (decide_eq_false h5).symm (beq_eq_false_iff_ne.2 h0) (by omega) hcb.2 hlen s2 (fun W => class_any x W) (fun W hW => ?_) (fun W hW => print_any _ W hW) (fun W => parse_of_print _ (Nat.le_trans (print_len _) (by decide)) W) (fun W => ?_)
      · rw [if_neg (by decide), ← s1]; exact print_any _ W hW
      · have := class_any (canon (x ^^^ topW)) W
        rw [class_canon, s3] at this
        rw [show 9 - max (classOf x) (9 - classOf x) = 9 - classOf x by omega]; exact this
end Go.Proofs.YtachfcdkokndfaaDoor
