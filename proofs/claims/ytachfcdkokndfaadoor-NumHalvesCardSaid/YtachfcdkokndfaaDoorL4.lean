/-
  The walks of the laws NumBack, NumNext, NumOrder.
-/
import Derived.Test.YtachfcdkokndfaaDoorL3
namespace Go.Proofs.YtachfcdkokndfaaDoor
open Go.RowKit Go.Shelf Go.Sort
attribute [local go_sem] bs_size bs_get bs_toList neg_run

def backN (r : Nat) : Nat := if 9223372036854775808 ≤ r then r - 9223372036854775808 else 18446744073709551615 - r
/-- Back, as a number made canonical. -/
theorem back_nat (r : UInt64) : ∃ y : UInt64, backOf r = canon y ∧ y.toNat = backN r.toNat := by
  unfold backOf backN
  have hr := r.toNat_lt
  by_cases h : r &&& topW ≠ 0
  · have h2 := (top_ne0 r).1 h
    rw [if_pos h, if_pos h2]
    exact ⟨_, rfl, by rw [notop_nat]; omega⟩
  · have h' : r &&& topW = 0 := by simpa using h
    have h2 := (top_eq0 r).1 h'
    rw [if_neg h, if_neg (by omega)]
    exact ⟨_, rfl, not_nat r⟩
theorem back_rank (x : UInt64) : backOf (rankOf x) = canon x := by
  obtain ⟨y, h1, h2⟩ := back_nat (rankOf x)
  have hx := (canon x).toNat_lt
  have : y = canon x := by
    rw [u_eq_lit, h2, rank_nat]
    unfold backN rankN
    split <;> split <;> omega
  rw [h1, this, canon_canon]
theorem canon0 : canon 0 = 0 := by decide +kernel

set_option maxHeartbeats 1000000 in
theorem numBack_head (x : UInt64) (l : List UInt8) (w : World) (hT : Laid w) (q : Bool) (hq : decide (2000 < l.length) = q)
    (HS : q = false → ∃ z : UInt64, ∃ er : Int, Hid (∀ W, Calls Tryd.prog 18 #[.string (bs l)] W (Told W (z, er))) ∧ ((er = 0 ∧ printOf z = l) ∨ (z = 0 ∧ er = 1) ∨ (z = 0 ∧ er = 4))) :
    Calls Tryd.prog 7 #[.float .f64 (fb x), .string (bs l)] w fun e w' => e = .returned (.bool true) ∧ Below w.heap.size w w' := by
  have HPr : Hid (∀ W, Laid W → Calls Tryd.prog 16 #[.float .f64 (fb x)] W fun e w' => e = .returned (.string (bs (printOf x))) ∧ Below W.heap.size W w') := fun W hW => print_any x W hW
  have HPa : Hid (∀ W, Calls Tryd.prog 18 #[.string (bs (printOf x))] W fun e w' => e = .returned (.tuple #[.float .f64 (fb (canon x)), .int .i64 0]) ∧ ∃ nd, w' = W.drewN nd) := fun W => parse_of_print x (Nat.le_trans (print_len x) (by decide)) W
  have HB1 : Hid (∀ W, Calls Tryd.prog 26 #[.float .f64 (fb (canon x))] W fun e w' => e = .returned (.int .u64 (n64 (canon x))) ∧ w' = W) := fun W => by
    have := bitsF_any (canon x) W
    rw [canon_canon] at this; exact this
  have HB2 : Hid (∀ W, Calls Tryd.prog 26 #[.float .f64 (fb x)] W fun e w' => e = .returned (.int .u64 (n64 (canon x))) ∧ w' = W) := fun W => bitsF_any x W
  have HRk : Hid (∀ W, Calls Tryd.prog 29 #[.float .f64 (fb x)] W fun e w' => e = .returned (.int .u64 (n64 (rankOf x))) ∧ w' = W) := fun W => rank_any x W
  have HBk : Hid (∀ W, Calls Tryd.prog 31 #[.int .u64 (n64 (rankOf x))] W fun e w' => e = .returned (.float .f64 (fb (canon x))) ∧ w' = W) := fun W => by
    have := back_any (rankOf x) W
    rw [back_rank] at this; exact this
  generalize printOf x = P at *
  generalize canon x = C at *
  generalize rankOf x = R at *
  cases q with
  | true =>
    clear HS
    have hq := of_decide_eq_true hq
    go_enter Tryd.func7, Tryd.ntmps7
    go_wp2_with fail
    go_at_call 15
    refine (first_any _ hT).mono ?_
    rintro e w1 ⟨rfl, hb1⟩
    go_wp2_with fail
    go_at_call 16
    refine (HPr.out _ (hT.below hb1)).mono ?_
    rintro e w2 ⟨rfl, hb2⟩
    have hbb := hb1.trans (hb2.mono hb1.size)
    clear hb1 hb2
    go_wp2_with (first | (go_at_call 18; ((with_reducible refine (HPa.out _).mono ?_); rintro e w' ⟨rfl, nd, rfl⟩)) | (go_at_call 26; ((with_reducible refine (HB1.out _).mono ?_); rintro e w' ⟨rfl, rfl⟩)) | (go_at_call 26; ((with_reducible refine (HB2.out _).mono ?_); rintro e w' ⟨rfl, rfl⟩)) | (go_at_call 29; ((with_reducible refine (HRk.out _).mono ?_); rintro e w' ⟨rfl, rfl⟩)) | (go_at_call 31; ((with_reducible refine (HBk.out _).mono ?_); rintro e w' ⟨rfl, rfl⟩)))
    go_at_call 15
    refine (first_any _ (hT.below (below_drewN hbb _))).mono ?_
    rintro e w4 ⟨rfl, hb4⟩
    have hb5 : Below w.heap.size w w4 := (below_drewN hbb _).trans (hb4.mono hbb.size)
    clear hb4
    go_wp2
    go_ret
    exact ⟨rfl, hb5⟩
  | false =>
    have hq := of_decide_eq_false hq
    obtain ⟨z, er, HZ, hz⟩ := HS rfl
    clear HS
    rcases hz with ⟨rfl, hp⟩ | ⟨rfl, rfl⟩ | ⟨rfl, rfl⟩
    · have HPz : Hid (∀ W, Laid W → Calls Tryd.prog 16 #[.float .f64 (fb z)] W fun e w' => e = .returned (.string (bs l)) ∧ Below W.heap.size W w') := fun W hW => by rw [← hp]; exact print_any z W hW
      clear hp
      go_enter Tryd.func7, Tryd.ntmps7
      go_wp2_with fail
      go_at_call 15
      refine (first_any _ hT).mono ?_
      rintro e w1 ⟨rfl, hb1⟩
      go_wp2_with fail
      go_at_call 16
      refine (HPr.out _ (hT.below hb1)).mono ?_
      rintro e w2 ⟨rfl, hb2⟩
      have hbb := hb1.trans (hb2.mono hb1.size)
      clear hb1 hb2
      go_wp2_with (first | (go_at_call 18; ((with_reducible refine (HPa.out _).mono ?_); rintro e w' ⟨rfl, nd, rfl⟩)) | (go_at_call 26; ((with_reducible refine (HB1.out _).mono ?_); rintro e w' ⟨rfl, rfl⟩)) | (go_at_call 26; ((with_reducible refine (HB2.out _).mono ?_); rintro e w' ⟨rfl, rfl⟩)) | (go_at_call 29; ((with_reducible refine (HRk.out _).mono ?_); rintro e w' ⟨rfl, rfl⟩)) | (go_at_call 31; ((with_reducible refine (HBk.out _).mono ?_); rintro e w' ⟨rfl, rfl⟩)) | (go_at_call 18; ((with_reducible refine (HZ.out _).mono ?_); rintro e w' ⟨rfl, nd2, rfl⟩)))
      go_at_call 15
      refine (first_any _ (hT.below (below_drewN hbb _))).mono ?_
      rintro e w4 ⟨rfl, hb4⟩
      have hb5 : Below w.heap.size w w4 := (below_drewN hbb _).trans (hb4.mono hbb.size)
      clear hb4
      go_wp2_with fail
      go_at_call 16
      refine (HPz.out _ (hT.below hb5)).mono ?_
      rintro e w6 ⟨rfl, hb6⟩
      have hb7 := hb5.trans (hb6.mono hb5.size)
      clear hb6 hb5
      go_wp2
      go_ret
      exact ⟨rfl, hb7⟩
    all_goals
      have HB3 : Hid (∀ W, Calls Tryd.prog 26 #[.float .f64 (fb 0)] W fun e w' => e = .returned (.int .u64 0) ∧ w' = W) := fun W => by
        have := bitsF_any 0 W
        rw [canon0] at this; exact this
      go_enter Tryd.func7, Tryd.ntmps7
      go_wp2_with fail
      go_at_call 15
      refine (first_any _ hT).mono ?_
      rintro e w1 ⟨rfl, hb1⟩
      go_wp2_with fail
      go_at_call 16
      refine (HPr.out _ (hT.below hb1)).mono ?_
      rintro e w2 ⟨rfl, hb2⟩
      have hbb := hb1.trans (hb2.mono hb1.size)
      clear hb1 hb2
      go_wp2_with (first | (go_at_call 18; ((with_reducible refine (HPa.out _).mono ?_); rintro e w' ⟨rfl, nd, rfl⟩)) | (go_at_call 26; ((with_reducible refine (HB1.out _).mono ?_); rintro e w' ⟨rfl, rfl⟩)) | (go_at_call 26; ((with_reducible refine (HB2.out _).mono ?_); rintro e w' ⟨rfl, rfl⟩)) | (go_at_call 29; ((with_reducible refine (HRk.out _).mono ?_); rintro e w' ⟨rfl, rfl⟩)) | (go_at_call 31; ((with_reducible refine (HBk.out _).mono ?_); rintro e w' ⟨rfl, rfl⟩)) | (go_at_call 18; ((with_reducible refine (HZ.out _).mono ?_); rintro e w' ⟨rfl, nd2, rfl⟩)))
      go_at_call 15
      refine (first_any _ (hT.below (below_drewN hbb _))).mono ?_
      rintro e w4 ⟨rfl, hb4⟩
      have hb5 : Below w.heap.size w w4 := (below_drewN hbb _).trans (hb4.mono hbb.size)
      clear hb4
      go_wp2_with (go_at_call 26; ((with_reducible refine (HB3.out _).mono ?_); rintro e w' ⟨rfl, rfl⟩))
      go_ret
      exact ⟨rfl, hb5⟩
theorem numBack_walk (x : UInt64) (l : List UInt8) (w : World) (hT : Laid w) : Calls Tryd.prog 7 #[.float .f64 (fb x), .string (bs l)] w fun e w' => e = .returned (.bool true) ∧ Below w.heap.size w w' := by
  refine numBack_head x l w hT _ rfl fun hq => ?_
  have hl := of_decide_eq_false hq
  refine ⟨(parseOf l).1, (parseOf l).2, fun W => parse_any l (by omega) W, ?_⟩
  rcases parse_err l with h | h | h
  · exact .inl ⟨h, print_parse (Prod.ext rfl h)⟩
  · rw [h]; exact .inr (.inl ⟨rfl, rfl⟩)
  · rw [h]; exact .inr (.inr ⟨rfl, rfl⟩)
end Go.Proofs.YtachfcdkokndfaaDoor
