/-
  The walks of datum's small functions and the reference's: keys, values that may be, values that are made; the sameness of values.
-/
import Derived.Test.YtecgjhjglklcnaaDoorNG
import Derived.WalkLawsBesides
namespace Go.Proofs.YtecgjhjglklcnaaDoor
set_option maxRecDepth 100000
open Go.RowKit Go.Shelf Go.Sort
attribute [local go_sem] bs_size bs_get bs_toList frombits tobits

theorem run_store_float {P : Program} (w : World) (a : Addr) (m : Mode) (k : FloatKind) (b : Nat) : (store a (.float k b) m).run P w = stored P w a (.float k b) m := run_store P w a _ m rfl
/-- A value of the store, by value. -/
def VA (k : Int) (x : UInt64) (s : List UInt8) : Value := .agg #[.int .i64 k, .float .f64 (fb x), .string (bs s)]
def keyB (s : List UInt8) : Bool := decide (1 ≤ s.length ∧ s.length ≤ 24)
def mayB (k : Int) (x : UInt64) (s : List UInt8) : Bool :=
  if k = 0 then (x == 0) && s.isEmpty
  else if k = 1 then s.isEmpty && (x == canon x)
  else if k = 2 then (x == 0) && decide (s.length ≤ 64)
  else false
set_option maxHeartbeats 400000 in
theorem key_any (s : List UInt8) (w : World) : Calls Tryd.prog 18 #[.string (bs s)] w fun e w' => e = .returned (.bool (keyB s)) ∧ w' = w := by
  by_cases h1 : 1 ≤ s.length
  · by_cases h2 : s.length ≤ 24
    · have HV : Hid (keyB s = true) := decide_eq_true ⟨h1, h2⟩
      have hd1 : decide ((1 : Int) ≤ (s.length : Int)) = true := decide_eq_true (by omega)
      have hd2 : decide ((s.length : Int) ≤ 24) = true := decide_eq_true (by omega)
      clear h1 h2
      go_enter Tryd.func18, Tryd.ntmps18
      go_wp2
      go_ret
      exact ⟨by rw [HV.out]; rfl, rfl⟩
    · have HV : Hid (keyB s = false) := decide_eq_false (fun h => h2 h.2)
      have hd1 : decide ((1 : Int) ≤ (s.length : Int)) = true := decide_eq_true (by omega)
      have hd2 : decide ((s.length : Int) ≤ 24) = false := decide_eq_false (by omega)
      clear h1 h2
      go_enter Tryd.func18, Tryd.ntmps18
      go_wp2
      go_ret
      exact ⟨by rw [HV.out]; rfl, rfl⟩
  · have HV : Hid (keyB s = false) := decide_eq_false (fun h => h1 h.1)
    have h0 : s.length = 0 := by omega
    have hd : decide ((1 : Int) ≤ (s.length : Int)) = false := decide_eq_false (by omega)
    go_enter Tryd.func18, Tryd.ntmps18
    go_wp2
    go_ret
    exact ⟨by rw [HV.out]; rfl, rfl⟩
set_option maxHeartbeats 400000 in
theorem refKey_any (s : List UInt8) (w : World) : Calls Tryd.prog 19 #[.string (bs s)] w fun e w' => e = .returned (.bool (keyB s)) ∧ w' = w := by
  by_cases h1 : 1 ≤ s.length
  · by_cases h2 : s.length ≤ 24
    · have HV : Hid (keyB s = true) := decide_eq_true ⟨h1, h2⟩
      have hd1 : decide ((1 : Int) ≤ (s.length : Int)) = true := decide_eq_true (by omega)
      have hd2 : decide ((s.length : Int) ≤ 24) = true := decide_eq_true (by omega)
      clear h1 h2
      go_enter Tryd.func19, Tryd.ntmps19
      go_wp2
      go_ret
      exact ⟨by rw [HV.out]; rfl, rfl⟩
    · have HV : Hid (keyB s = false) := decide_eq_false (fun h => h2 h.2)
      have hd1 : decide ((1 : Int) ≤ (s.length : Int)) = true := decide_eq_true (by omega)
      have hd2 : decide ((s.length : Int) ≤ 24) = false := decide_eq_false (by omega)
      clear h1 h2
      go_enter Tryd.func19, Tryd.ntmps19
      go_wp2
      go_ret
      exact ⟨by rw [HV.out]; rfl, rfl⟩
  · have HV : Hid (keyB s = false) := decide_eq_false (fun h => h1 h.1)
    have h0 : s.length = 0 := by omega
    have hd : decide ((1 : Int) ≤ (s.length : Int)) = false := decide_eq_false (by omega)
    go_enter Tryd.func19, Tryd.ntmps19
    go_wp2
    go_ret
    exact ⟨by rw [HV.out]; rfl, rfl⟩
set_option maxHeartbeats 400000 in
theorem may_any (k : Int) (x : UInt64) (s : List UInt8) (w : World) : Calls Tryd.prog 20 #[VA k x s] w fun e w' => e = .returned (.bool (mayB k x s)) ∧ Below w.heap.size w w' := by
  unfold VA
  have hx0 := z_eq x
  by_cases h0 : k = 0
  · subst h0
    have HV : Hid (mayB 0 x s = ((x == 0) && s.isEmpty)) := by unfold mayB; rw [if_pos rfl]; exact rfl
    cases hz : (x == 0)
    all_goals
      rw [hz] at hx0 HV
      clear hz
      cases hs : s.isEmpty
      all_goals
        rw [hs] at HV
        go_enter Tryd.func20, Tryd.ntmps20
        go_wp2
        go_ret
        exact ⟨by rw [HV.out]; rfl, (Below.refl _ _).alloc (Nat.le_refl _) _⟩
  have k0 : (k == 0) = false := beq_eq_false_iff_ne.2 h0
  by_cases h1 : k = 1
  · subst h1
    have HV : Hid (mayB 1 x s = (s.isEmpty && (x == canon x))) := by unfold mayB; rw [if_neg h0, if_pos rfl]; exact rfl
    have hc := n64_eq x (canon x)
    cases hs : s.isEmpty
    · rw [hs] at HV
      clear hc hx0
      go_enter Tryd.func20, Tryd.ntmps20
      go_wp2_with fail
      go_quiet ((go_at_call 50; exact Calls.quiet_of_same (bitsF_any _ _)))
      go_wp2
      go_ret
      exact ⟨by rw [HV.out]; rfl, below_drewN ((Below.refl _ _).alloc (Nat.le_refl _) _) _⟩
    · rw [hs] at HV
      cases hq : (x == canon x)
      all_goals
        rw [hq] at hc HV
        clear hq hx0
        go_enter Tryd.func20, Tryd.ntmps20
        go_wp2_with fail
        go_quiet ((go_at_call 50; exact Calls.quiet_of_same (bitsF_any _ _)))
        go_wp2
        go_ret
        exact ⟨by rw [HV.out]; rfl, below_drewN ((Below.refl _ _).alloc (Nat.le_refl _) _) _⟩
  have k1 : (k == 1) = false := beq_eq_false_iff_ne.2 h1
  by_cases h2 : k = 2
  · subst h2
    have HV : Hid (mayB 2 x s = ((x == 0) && decide (s.length ≤ 64))) := by unfold mayB; rw [if_neg h0, if_neg h1, if_pos rfl]; exact rfl
    cases hz : (x == 0)
    all_goals
      rw [hz] at hx0 HV
      clear hz
      by_cases hs : s.length ≤ 64
      case' pos => rw [decide_eq_true hs] at HV; have hd : decide ((s.length : Int) ≤ 64) = true := decide_eq_true (by omega)
      case' neg => rw [decide_eq_false hs] at HV; have hd : decide ((s.length : Int) ≤ 64) = false := decide_eq_false (by omega)
      all_goals
        go_enter Tryd.func20, Tryd.ntmps20
        go_wp2
        go_ret
        exact ⟨by rw [HV.out]; rfl, (Below.refl _ _).alloc (Nat.le_refl _) _⟩
  have k2 : (k == 2) = false := beq_eq_false_iff_ne.2 h2
  have HV : Hid (mayB k x s = false) := by unfold mayB; rw [if_neg h0, if_neg h1, if_neg h2]; exact rfl
  clear hx0 h0 h1 h2
  go_enter Tryd.func20, Tryd.ntmps20
  go_wp2
  go_ret
  exact ⟨by rw [HV.out]; rfl, (Below.refl _ _).alloc (Nat.le_refl _) _⟩
theorem rbits0 (x : UInt64) (w : World) : Calls Tryd.prog 46 #[.float .f64 (fb x), .float .f64 0] w fun e w' => e = .returned (.bool (x == 0)) ∧ w' = w := rbits_any x 0 w
set_option maxHeartbeats 400000 in
theorem refMay_any (k : Int) (x : UInt64) (s : List UInt8) (w : World) : Calls Tryd.prog 21 #[VA k x s] w fun e w' => e = .returned (.bool (mayB k x s)) ∧ Below w.heap.size w w' := by
  unfold VA
  have HB : Hid (∀ W, Calls Tryd.prog 46 #[.float .f64 (fb x), .float .f64 0] W fun e w' => e = .returned (.bool (x == 0)) ∧ w' = W) := fun W => rbits0 x W
  by_cases h0 : k = 0
  · subst h0
    have HV : Hid (mayB 0 x s = ((x == 0) && s.isEmpty)) := by unfold mayB; rw [if_pos rfl]; exact rfl
    cases hz : (x == 0)
    all_goals
      rw [hz] at HB HV
      clear hz
      cases hs : s.isEmpty
      all_goals
        rw [hs] at HV
        go_enter Tryd.func21, Tryd.ntmps21
        go_wp2_with (go_at_call 46; ((with_reducible refine (HB.out _).mono ?_); rintro e w' ⟨rfl, rfl⟩))
        go_ret
        exact ⟨by rw [HV.out]; rfl, (Below.refl _ _).alloc (Nat.le_refl _) _⟩
  have k0 : (k == 0) = false := beq_eq_false_iff_ne.2 h0
  by_cases h1 : k = 1
  · subst h1
    have HV : Hid (mayB 1 x s = (s.isEmpty && (x == canon x))) := by unfold mayB; rw [if_neg h0, if_pos rfl]; exact rfl
    have HC : Hid (∀ W, Calls Tryd.prog 46 #[.float .f64 (fb x), .float .f64 (fb (canon x))] W fun e w' => e = .returned (.bool (x == canon x)) ∧ w' = W) := fun W => rbits_any x (canon x) W
    cases hq : (x == canon x)
    all_goals
      rw [hq] at HC HV
      clear hq HB
      cases hs : s.isEmpty
      all_goals
        rw [hs] at HV
        go_enter Tryd.func21, Tryd.ntmps21
        go_wp2_with fail
        go_quiet ((first | (go_at_call 48; exact Calls.quiet_of_same (refCanon_any _ _)) | (go_at_call 46; exact Calls.quiet_of_same (HC.out _))))
        go_wp2
        go_ret
        exact ⟨by rw [HV.out]; rfl, below_drewN ((Below.refl _ _).alloc (Nat.le_refl _) _) _⟩
  have k1 : (k == 1) = false := beq_eq_false_iff_ne.2 h1
  by_cases h2 : k = 2
  · subst h2
    have HV : Hid (mayB 2 x s = ((x == 0) && decide (s.length ≤ 64))) := by unfold mayB; rw [if_neg h0, if_neg h1, if_pos rfl]; exact rfl
    cases hz : (x == 0)
    all_goals
      rw [hz] at HB HV
      clear hz
      by_cases hs : s.length ≤ 64
      case' pos => rw [decide_eq_true hs] at HV; have hd : decide ((s.length : Int) ≤ 64) = true := decide_eq_true (by omega)
      case' neg => rw [decide_eq_false hs] at HV; have hd : decide ((s.length : Int) ≤ 64) = false := decide_eq_false (by omega)
      all_goals
        go_enter Tryd.func21, Tryd.ntmps21
        go_wp2_with (go_at_call 46; ((with_reducible refine (HB.out _).mono ?_); rintro e w' ⟨rfl, rfl⟩))
        go_ret
        exact ⟨by rw [HV.out]; rfl, (Below.refl _ _).alloc (Nat.le_refl _) _⟩
  have k2 : (k == 2) = false := beq_eq_false_iff_ne.2 h2
  have HV : Hid (mayB k x s = false) := by unfold mayB; rw [if_neg h0, if_neg h1, if_neg h2]; exact rfl
  clear HB h0 h1 h2
  go_enter Tryd.func21, Tryd.ntmps21
  go_wp2
  go_ret
  exact ⟨by rw [HV.out]; rfl, (Below.refl _ _).alloc (Nat.le_refl _) _⟩
end Go.Proofs.YtecgjhjglklcnaaDoor
