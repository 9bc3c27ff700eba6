/-
  The walks of datum's small functions and the reference's: keys, values that may be, values that are made; the sameness of values.
  The walks of the sameness of values, and of the values that are made.
  The walks of Plus, Compare, Same of values, and the reference's. Written by a program (d3gen.py).
-/
import Derived.Test.YtalpbphfmelhhaaGreatDoorNG
import Derived.WalkLawsBesides
/-! ### The walks of datum's small functions and the reference's: keys, values that may be, values that are made; the sameness of values. -/
namespace Go.Proofs.YtalpbphfmelhhaaGreatDoor
set_option maxRecDepth 100000
open Go.RowKit Go.Shelf Go.Sort
attribute [local go_sem] bs_size bs_get bs_toList frombits tobits

theorem run_store_float {P : Program} (w : World) (a : Addr) (m : Mode) (k : FloatKind) (b : Nat) : (store a (.float k b) m).run P w = stored P w a (.float k b) m := run_store P w a _ m rfl
/-- A value of the store, by value. -/
def VA (k : Int) (x : UInt64) (s : List UInt8) : Value := .agg #[.int .i64 k, .float .f64 (fb x), .string (bs s)]
def keyB (s : List UInt8) : Bool := decide (1 ≤ s.length ∧ s.length ≤ 24)
def mayB (k : Int) (x : UInt64) (s : List UInt8) : Bool :=
  if k = 0 then (x == 0) && s.isEmpty
  else if k = 1 then s.isEmpty && (x == canon x)
  else if k = 2 then (x == 0) && decide (s.length ≤ 64)
  else false
set_option maxHeartbeats 400000 in
theorem key_any (s : List UInt8) (w : World) : Calls Tryz.prog 67 #[.string (bs s)] w fun e w' => e = .returned (.bool (keyB s)) ∧ w' = w := by
  by_cases h1 : 1 ≤ s.length
  · by_cases h2 : s.length ≤ 24
    · have HV : Hid (keyB s = true) := decide_eq_true ⟨h1, h2⟩
      have hd1 : decide ((1 : Int) ≤ (s.length : Int)) = true := decide_eq_true (by omega)
      have hd2 : decide ((s.length : Int) ≤ 24) = true := decide_eq_true (by omega)
      clear h1 h2
      go_enter Tryz.func67, Tryz.ntmps67
      go_wp2
      go_ret
      exact ⟨by rw [HV.out]; rfl, rfl⟩
    · have HV : Hid (keyB s = false) := decide_eq_false (fun h => h2 h.2)
      have hd1 : decide ((1 : Int) ≤ (s.length : Int)) = true := decide_eq_true (by omega)
      have hd2 : decide ((s.length : Int) ≤ 24) = false := decide_eq_false (by omega)
      clear h1 h2
      go_enter Tryz.func67, Tryz.ntmps67
      go_wp2
      go_ret
      exact ⟨by rw [HV.out]; rfl, rfl⟩
  · have HV : Hid (keyB s = false) := decide_eq_false (fun h => h1 h.1)
    have h0 : s.length = 0 := by omega
    have hd : decide ((1 : Int) ≤ (s.length : Int)) = false := decide_eq_false (by omega)
    go_enter Tryz.func67, Tryz.ntmps67
    go_wp2
    go_ret
    exact ⟨by rw [HV.out]; rfl, rfl⟩
set_option maxHeartbeats 400000 in
theorem refKey_any (s : List UInt8) (w : World) : Calls Tryz.prog 39 #[.string (bs s)] w fun e w' => e = .returned (.bool (keyB s)) ∧ w' = w := by
  by_cases h1 : 1 ≤ s.length
  · by_cases h2 : s.length ≤ 24
    · have HV : Hid (keyB s = true) := decide_eq_true ⟨h1, h2⟩
      have hd1 : decide ((1 : Int) ≤ (s.length : Int)) = true := decide_eq_true (by omega)
      have hd2 : decide ((s.length : Int) ≤ 24) = true := decide_eq_true (by omega)
      clear h1 h2
      go_enter Tryz.func39, Tryz.ntmps39
      go_wp2
      go_ret
      exact ⟨by rw [HV.out]; rfl, rfl⟩
    · have HV : Hid (keyB s = false) := decide_eq_false (fun h => h2 h.2)
      have hd1 : decide ((1 : Int) ≤ (s.length : Int)) = true := decide_eq_true (by omega)
      have hd2 : decide ((s.length : Int) ≤ 24) = false := decide_eq_false (by omega)
      clear h1 h2
      go_enter Tryz.func39, Tryz.ntmps39
      go_wp2
      go_ret
      exact ⟨by rw [HV.out]; rfl, rfl⟩
  · have HV : Hid (keyB s = false) := decide_eq_false (fun h => h1 h.1)
    have h0 : s.length = 0 := by omega
    have hd : decide ((1 : Int) ≤ (s.length : Int)) = false := decide_eq_false (by omega)
    go_enter Tryz.func39, Tryz.ntmps39
    go_wp2
    go_ret
    exact ⟨by rw [HV.out]; rfl, rfl⟩
set_option maxHeartbeats 400000 in
theorem may_any (k : Int) (x : UInt64) (s : List UInt8) (w : World) : Calls Tryz.prog 69 #[VA k x s] w fun e w' => e = .returned (.bool (mayB k x s)) ∧ Below w.heap.size w w' := by
  unfold VA
  have hx0 := z_eq x
  by_cases h0 : k = 0
  · subst h0
    have HV : Hid (mayB 0 x s = ((x == 0) && s.isEmpty)) := by unfold mayB; rw [if_pos rfl]; exact rfl
    cases hz : (x == 0)
    all_goals
      rw [hz] at hx0 HV
      clear hz
      cases hs : s.isEmpty
      all_goals
        rw [hs] at HV
        go_enter Tryz.func69, Tryz.ntmps69
        go_wp2
        go_ret
        exact ⟨by rw [HV.out]; rfl, (Below.refl _ _).alloc (Nat.le_refl _) _⟩
  have k0 : (k == 0) = false := beq_eq_false_iff_ne.2 h0
  by_cases h1 : k = 1
  · subst h1
    have HV : Hid (mayB 1 x s = (s.isEmpty && (x == canon x))) := by unfold mayB; rw [if_neg h0, if_pos rfl]; exact rfl
    have hc := n64_eq x (canon x)
    cases hs : s.isEmpty
    · rw [hs] at HV
      clear hc hx0
      go_enter Tryz.func69, Tryz.ntmps69
      go_wp2_with fail
      go_quiet ((go_at_call 100; exact Calls.quiet_of_same (bitsF_any _ _)))
      go_wp2
      go_ret
      exact ⟨by rw [HV.out]; rfl, below_drewN ((Below.refl _ _).alloc (Nat.le_refl _) _) _⟩
    · rw [hs] at HV
      cases hq : (x == canon x)
      all_goals
        rw [hq] at hc HV
        clear hq hx0
        go_enter Tryz.func69, Tryz.ntmps69
        go_wp2_with fail
        go_quiet ((go_at_call 100; exact Calls.quiet_of_same (bitsF_any _ _)))
        go_wp2
        go_ret
        exact ⟨by rw [HV.out]; rfl, below_drewN ((Below.refl _ _).alloc (Nat.le_refl _) _) _⟩
  have k1 : (k == 1) = false := beq_eq_false_iff_ne.2 h1
  by_cases h2 : k = 2
  · subst h2
    have HV : Hid (mayB 2 x s = ((x == 0) && decide (s.length ≤ 64))) := by unfold mayB; rw [if_neg h0, if_neg h1, if_pos rfl]; exact rfl
    cases hz : (x == 0)
    all_goals
      rw [hz] at hx0 HV
      clear hz
      by_cases hs : s.length ≤ 64
      case' pos => rw [decide_eq_true hs] at HV; have hd : decide ((s.length : Int) ≤ 64) = true := decide_eq_true (by omega)
      case' neg => rw [decide_eq_false hs] at HV; have hd : decide ((s.length : Int) ≤ 64) = false := decide_eq_false (by omega)
      all_goals
        go_enter Tryz.func69, Tryz.ntmps69
        go_wp2
        go_ret
        exact ⟨by rw [HV.out]; rfl, (Below.refl _ _).alloc (Nat.le_refl _) _⟩
  have k2 : (k == 2) = false := beq_eq_false_iff_ne.2 h2
  have HV : Hid (mayB k x s = false) := by unfold mayB; rw [if_neg h0, if_neg h1, if_neg h2]; exact rfl
  clear hx0 h0 h1 h2
  go_enter Tryz.func69, Tryz.ntmps69
  go_wp2
  go_ret
  exact ⟨by rw [HV.out]; rfl, (Below.refl _ _).alloc (Nat.le_refl _) _⟩
theorem rbits0 (x : UInt64) (w : World) : Calls Tryz.prog 65 #[.float .f64 (fb x), .float .f64 0] w fun e w' => e = .returned (.bool (x == 0)) ∧ w' = w := rbits_any x 0 w
set_option maxHeartbeats 400000 in
theorem refMay_any (k : Int) (x : UInt64) (s : List UInt8) (w : World) : Calls Tryz.prog 33 #[VA k x s] w fun e w' => e = .returned (.bool (mayB k x s)) ∧ Below w.heap.size w w' := by
  unfold VA
  have HB : Hid (∀ W, Calls Tryz.prog 65 #[.float .f64 (fb x), .float .f64 0] W fun e w' => e = .returned (.bool (x == 0)) ∧ w' = W) := fun W => rbits0 x W
  by_cases h0 : k = 0
  · subst h0
    have HV : Hid (mayB 0 x s = ((x == 0) && s.isEmpty)) := by unfold mayB; rw [if_pos rfl]; exact rfl
    cases hz : (x == 0)
    all_goals
      rw [hz] at HB HV
      clear hz
      cases hs : s.isEmpty
      all_goals
        rw [hs] at HV
        go_enter Tryz.func33, Tryz.ntmps33
        go_wp2_with (go_at_call 65; ((with_reducible refine (HB.out _).mono ?_); rintro e w' ⟨rfl, rfl⟩))
        go_ret
        exact ⟨by rw [HV.out]; rfl, (Below.refl _ _).alloc (Nat.le_refl _) _⟩
  have k0 : (k == 0) = false := beq_eq_false_iff_ne.2 h0
  by_cases h1 : k = 1
  · subst h1
    have HV : Hid (mayB 1 x s = (s.isEmpty && (x == canon x))) := by unfold mayB; rw [if_neg h0, if_pos rfl]; exact rfl
    have HC : Hid (∀ W, Calls Tryz.prog 65 #[.float .f64 (fb x), .float .f64 (fb (canon x))] W fun e w' => e = .returned (.bool (x == canon x)) ∧ w' = W) := fun W => rbits_any x (canon x) W
    cases hq : (x == canon x)
    all_goals
      rw [hq] at HC HV
      clear hq HB
      cases hs : s.isEmpty
      all_goals
        rw [hs] at HV
        go_enter Tryz.func33, Tryz.ntmps33
        go_wp2_with fail
        go_quiet ((first | (go_at_call 66; exact Calls.quiet_of_same (refCanon_any _ _)) | (go_at_call 65; exact Calls.quiet_of_same (HC.out _))))
        go_wp2
        go_ret
        exact ⟨by rw [HV.out]; rfl, below_drewN ((Below.refl _ _).alloc (Nat.le_refl _) _) _⟩
  have k1 : (k == 1) = false := beq_eq_false_iff_ne.2 h1
  by_cases h2 : k = 2
  · subst h2
    have HV : Hid (mayB 2 x s = ((x == 0) && decide (s.length ≤ 64))) := by unfold mayB; rw [if_neg h0, if_neg h1, if_pos rfl]; exact rfl
    cases hz : (x == 0)
    all_goals
      rw [hz] at HB HV
      clear hz
      by_cases hs : s.length ≤ 64
      case' pos => rw [decide_eq_true hs] at HV; have hd : decide ((s.length : Int) ≤ 64) = true := decide_eq_true (by omega)
      case' neg => rw [decide_eq_false hs] at HV; have hd : decide ((s.length : Int) ≤ 64) = false := decide_eq_false (by omega)
      all_goals
        go_enter Tryz.func33, Tryz.ntmps33
        go_wp2_with (go_at_call 65; ((with_reducible refine (HB.out _).mono ?_); rintro e w' ⟨rfl, rfl⟩))
        go_ret
        exact ⟨by rw [HV.out]; rfl, (Below.refl _ _).alloc (Nat.le_refl _) _⟩
  have k2 : (k == 2) = false := beq_eq_false_iff_ne.2 h2
  have HV : Hid (mayB k x s = false) := by unfold mayB; rw [if_neg h0, if_neg h1, if_neg h2]; exact rfl
  clear HB h0 h1 h2
  go_enter Tryz.func33, Tryz.ntmps33
  go_wp2
  go_ret
  exact ⟨by rw [HV.out]; rfl, (Below.refl _ _).alloc (Nat.le_refl _) _⟩
end Go.Proofs.YtalpbphfmelhhaaGreatDoor

/-! ### The walks of the sameness of values, and of the values that are made. -/
namespace Go.Proofs.YtalpbphfmelhhaaGreatDoor
set_option maxRecDepth 100000
open Go.RowKit Go.Shelf Go.Sort
attribute [local go_sem] bs_size bs_get bs_toList frombits tobits run_store_float

def valB (k : Int) (x : UInt64) (s : List UInt8) (k' : Int) (x' : UInt64) (s' : List UInt8) : Bool := (k == k') && (s == s') && (x == x')
set_option maxHeartbeats 400000 in
theorem value_any (k : Int) (x : UInt64) (s : List UInt8) (k' : Int) (x' : UInt64) (s' : List UInt8) (w : World) :
    Calls Tryz.prog 34 #[VA k x s, VA k' x' s'] w fun e w' => e = .returned (.bool (valB k x s k' x' s')) ∧ Below w.heap.size w w' := by
  unfold VA
  have HB : Hid (∀ W, Calls Tryz.prog 65 #[.float .f64 (fb x), .float .f64 (fb x')] W fun e w' => e = .returned (.bool (x == x')) ∧ w' = W) := fun W => rbits_any x x' W
  have HV : Hid (valB k x s k' x' s' = ((k == k') && (s == s') && (x == x'))) := rfl
  cases h1 : (k == k')
  case' true => cases h2 : (s == s')
  case' true.true => cases h3 : (x == x')
  case' false => rw [h1] at HV
  case' true.false => rw [h1, h2] at HV
  case' true.true.false => rw [h1, h2, h3] at HV; rw [h3] at HB; clear h3
  case' true.true.true => rw [h1, h2, h3] at HV; rw [h3] at HB; clear h3
  all_goals
    go_enter Tryz.func34, Tryz.ntmps34
    go_wp2_with (go_at_call 65; ((with_reducible refine (HB.out _).mono ?_); rintro e w' ⟨rfl, rfl⟩))
    go_ret
    exact ⟨by rw [HV.out]; rfl, ((Below.refl _ _).alloc (Nat.le_refl _) _).alloc (by simp) _⟩
theorem valB_self (k : Int) (x : UInt64) (s : List UInt8) : valB k x s k x s = true := by unfold valB; simp
theorem value_self (k : Int) (x : UInt64) (s : List UInt8) (w : World) : Calls Tryz.prog 34 #[VA k x s, VA k x s] w fun e w' => e = .returned (.bool true) ∧ Below w.heap.size w w' := by
  have := value_any k x s k x s w
  rw [valB_self] at this; exact this
set_option maxHeartbeats 400000 in
theorem number_val (x : UInt64) (w : World) : Calls Tryz.prog 111 #[.float .f64 (fb x)] w fun e w' => e = .returned (VA 1 (canon x) []) ∧ Below w.heap.size w w' := by
  go_enter Tryz.func111, Tryz.ntmps111
  go_wp2_with (go_at_call 122; ((with_reducible refine (canon_any _ _).mono ?_); rintro e w' ⟨rfl, rfl⟩))
  exact bodyPost_ret (v := VA 1 (canon x) []) (by simp [results, Tryz.results111, go_sem, VA] <;> first | rfl | exact ⟨rfl, rfl⟩ | exact ⟨rfl, rfl, rfl⟩) rfl ⟨rfl, by first | exact (Below.refl _ _).alloc (Nat.le_refl _) _ | exact ((Below.refl _ _).alloc (Nat.le_refl _) _).setCell (Nat.le_refl _) _⟩
set_option maxHeartbeats 400000 in
theorem refNumber_val (x : UInt64) (w : World) : Calls Tryz.prog 85 #[.float .f64 (fb x)] w fun e w' => e = .returned (VA 1 (canon x) []) ∧ Below w.heap.size w w' := by
  go_enter Tryz.func85, Tryz.ntmps85
  go_wp2_with (go_at_call 66; ((with_reducible refine (refCanon_any _ _).mono ?_); rintro e w' ⟨rfl, rfl⟩))
  exact bodyPost_ret (v := VA 1 (canon x) []) (by simp [results, Tryz.results85, go_sem, VA] <;> first | rfl | exact ⟨rfl, rfl⟩ | exact ⟨rfl, rfl, rfl⟩) rfl ⟨rfl, by first | exact (Below.refl _ _).alloc (Nat.le_refl _) _ | exact ((Below.refl _ _).alloc (Nat.le_refl _) _).setCell (Nat.le_refl _) _⟩
/-- The value of a text. -/
def wordsK (s : List UInt8) : Int := if 64 < s.length then 0 else 2
def wordsS (s : List UInt8) : List UInt8 := if 64 < s.length then [] else s
set_option maxHeartbeats 400000 in
theorem words_val (s : List UInt8) (w : World) : Calls Tryz.prog 109 #[.string (bs s)] w fun e w' => e = .returned (VA (wordsK s) 0 (wordsS s)) ∧ Below w.heap.size w w' := by
  by_cases h : 64 < s.length
  · have h1 : wordsK s = 0 := if_pos h
    have h2 : wordsS s = [] := if_pos h
    rw [h1, h2]
    have hd : decide ((64 : Int) < (s.length : Int)) = true := decide_eq_true (by omega)
    clear h h1 h2
    go_enter Tryz.func109, Tryz.ntmps109
    go_wp2
    exact bodyPost_ret (v := VA 0 0 []) (by simp [results, Tryz.results109, go_sem, VA] <;> first | rfl | exact ⟨rfl, rfl⟩ | exact ⟨rfl, rfl, rfl⟩) rfl ⟨rfl, by first | exact (Below.refl _ _).alloc (Nat.le_refl _) _ | exact ((Below.refl _ _).alloc (Nat.le_refl _) _).setCell (Nat.le_refl _) _⟩
  · have h1 : wordsK s = 2 := if_neg h
    have h2 : wordsS s = s := if_neg h
    rw [h1, h2]
    have hd : decide ((64 : Int) < (s.length : Int)) = false := decide_eq_false (by omega)
    clear h h1 h2
    go_enter Tryz.func109, Tryz.ntmps109
    go_wp2
    exact bodyPost_ret (v := VA 2 0 s) (by simp [results, Tryz.results109, go_sem, VA] <;> first | rfl | exact ⟨rfl, rfl⟩ | exact ⟨rfl, rfl, rfl⟩) rfl ⟨rfl, by first | exact (Below.refl _ _).alloc (Nat.le_refl _) _ | exact ((Below.refl _ _).alloc (Nat.le_refl _) _).setCell (Nat.le_refl _) _⟩
set_option maxHeartbeats 400000 in
theorem refWords_val (s : List UInt8) (w : World) : Calls Tryz.prog 91 #[.string (bs s)] w fun e w' => e = .returned (VA (wordsK s) 0 (wordsS s)) ∧ Below w.heap.size w w' := by
  by_cases h : 64 < s.length
  · have h1 : wordsK s = 0 := if_pos h
    have h2 : wordsS s = [] := if_pos h
    rw [h1, h2]
    have hd : decide ((64 : Int) < (s.length : Int)) = true := decide_eq_true (by omega)
    clear h h1 h2
    go_enter Tryz.func91, Tryz.ntmps91
    go_wp2
    exact bodyPost_ret (v := VA 0 0 []) (by simp [results, Tryz.results91, go_sem, VA] <;> first | rfl | exact ⟨rfl, rfl⟩ | exact ⟨rfl, rfl, rfl⟩) rfl ⟨rfl, by first | exact (Below.refl _ _).alloc (Nat.le_refl _) _ | exact ((Below.refl _ _).alloc (Nat.le_refl _) _).setCell (Nat.le_refl _) _⟩
  · have h1 : wordsK s = 2 := if_neg h
    have h2 : wordsS s = s := if_neg h
    rw [h1, h2]
    have hd : decide ((64 : Int) < (s.length : Int)) = false := decide_eq_false (by omega)
    clear h h1 h2
    go_enter Tryz.func91, Tryz.ntmps91
    go_wp2
    exact bodyPost_ret (v := VA 2 0 s) (by simp [results, Tryz.results91, go_sem, VA] <;> first | rfl | exact ⟨rfl, rfl⟩ | exact ⟨rfl, rfl, rfl⟩) rfl ⟨rfl, by first | exact (Below.refl _ _).alloc (Nat.le_refl _) _ | exact ((Below.refl _ _).alloc (Nat.le_refl _) _).setCell (Nat.le_refl _) _⟩
/-! ### Behind a call that makes memory -/
theorem bcell {W w1 : World} (hb : Below W.heap.size W w1) : (∀ b o, b < W.heap.size → w1.cell? ⟨b, o, none⟩ = W.cell? ⟨b, o, none⟩) ∧ (∀ b o, b < W.heap.size → w1.frozen? ⟨b, o, none⟩ = W.frozen? ⟨b, o, none⟩) :=
  ⟨fun b o h => hb.cell (p := ⟨b, o, none⟩) h, fun b o h => hb.frozen (p := ⟨b, o, none⟩) h⟩
theorem below2 {w w1 : World} {o1 o2 : Obj} (hb : Below ((w.alloc o1).alloc o2).heap.size ((w.alloc o1).alloc o2) w1) : Below w.heap.size w w1 ∧ w.heap.size < w1.heap.size ∧ w.heap.size + 1 < w1.heap.size :=
  ⟨(((Below.refl _ _).alloc (Nat.le_refl _) _).alloc (by simp) _).trans (hb.mono (by simp; omega)), by have := hb.size; simp at this; omega⟩
theorem later2 {n : Nat} {w1 w2 : World} (h : n < w1.heap.size ∧ n + 1 < w1.heap.size) (hb : Below w1.heap.size w1 w2) : n < w2.heap.size ∧ n + 1 < w2.heap.size := by
  have := hb.size; omega
end Go.Proofs.YtalpbphfmelhhaaGreatDoor

/-! ### The walks of Plus, Compare, Same of values, and the reference's. Written by a program (d3gen.py). -/
namespace Go.Proofs.YtalpbphfmelhhaaGreatDoor
set_option maxRecDepth 100000
open Go.RowKit Go.Shelf Go.Sort
attribute [local go_sem] bs_size bs_get bs_toList frombits tobits run_store_float

/-- What Plus tells. -/
def plusV (ka : Int) (xa : UInt64) (sa : List UInt8) (kb : Int) (xb : UInt64) (sb : List UInt8) : Value :=
  if mayB ka xa sa && mayB kb xb sb && !(ka == 2) && !(kb == 2) then .tuple #[VA 1 (canon (opOf .add xa xb)) [], .int .i64 0] else .tuple #[VA 0 0 [], .int .i64 23]
end Go.Proofs.YtalpbphfmelhhaaGreatDoor
