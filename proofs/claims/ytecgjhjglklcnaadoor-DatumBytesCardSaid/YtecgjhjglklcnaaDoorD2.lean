/-
  The walks of the sameness of values, and of the values that are made.
-/
import Derived.Test.YtecgjhjglklcnaaDoorD1
namespace Go.Proofs.YtecgjhjglklcnaaDoor
set_option maxRecDepth 100000
open Go.RowKit Go.Shelf Go.Sort
attribute [local go_sem] bs_size bs_get bs_toList frombits tobits run_store_float

def valB (k : Int) (x : UInt64) (s : List UInt8) (k' : Int) (x' : UInt64) (s' : List UInt8) : Bool := (k == k') && (s == s') && (x == x')
set_option maxHeartbeats 400000 in
theorem value_any (k : Int) (x : UInt64) (s : List UInt8) (k' : Int) (x' : UInt64) (s' : List UInt8) (w : World) :
    Calls Tryd.prog 13 #[VA k x s, VA k' x' s'] w fun e w' => e = .returned (.bool (valB k x s k' x' s')) ∧ Below w.heap.size w w' := by
  unfold VA
  have HB : Hid (∀ W, Calls Tryd.prog 46 #[.float .f64 (fb x), .float .f64 (fb x')] W fun e w' => e = .returned (.bool (x == x')) ∧ w' = W) := fun W => rbits_any x x' W
  have HV : Hid (valB k x s k' x' s' = ((k == k') && (s == s') && (x == x'))) := rfl
  cases h1 : (k == k')
  case' true => cases h2 : (s == s')
  case' true.true => cases h3 : (x == x')
  case' false => rw [h1] at HV
  case' true.false => rw [h1, h2] at HV
  case' true.true.false => rw [h1, h2, h3] at HV; rw [h3] at HB; clear h3
  case' true.true.true => rw [h1, h2, h3] at HV; rw [h3] at HB; clear h3
  all_goals
    go_enter Tryd.func13, Tryd.ntmps13
    go_wp2_with (go_at_call 46; ((with_reducible refine (HB.out _).mono ?_); rintro e w' ⟨rfl, rfl⟩))
    go_ret
    exact ⟨by rw [HV.out]; rfl, ((Below.refl _ _).alloc (Nat.le_refl _) _).alloc (by simp) _⟩
theorem valB_self (k : Int) (x : UInt64) (s : List UInt8) : valB k x s k x s = true := by unfold valB; simp
theorem value_self (k : Int) (x : UInt64) (s : List UInt8) (w : World) : Calls Tryd.prog 13 #[VA k x s, VA k x s] w fun e w' => e = .returned (.bool true) ∧ Below w.heap.size w w' := by
  have := value_any k x s k x s w
  rw [valB_self] at this; exact this
set_option maxHeartbeats 400000 in
theorem number_val (x : UInt64) (w : World) : Calls Tryd.prog 14 #[.float .f64 (fb x)] w fun e w' => e = .returned (VA 1 (canon x) []) ∧ Below w.heap.size w w' := by
  go_enter Tryd.func14, Tryd.ntmps14
  go_wp2_with (go_at_call 47; ((with_reducible refine (canon_any _ _).mono ?_); rintro e w' ⟨rfl, rfl⟩))
  exact bodyPost_ret (v := VA 1 (canon x) []) (by simp [results, Tryd.results14, go_sem, VA] <;> first | rfl | exact ⟨rfl, rfl⟩ | exact ⟨rfl, rfl, rfl⟩) rfl ⟨rfl, by first | exact (Below.refl _ _).alloc (Nat.le_refl _) _ | exact ((Below.refl _ _).alloc (Nat.le_refl _) _).setCell (Nat.le_refl _) _⟩
set_option maxHeartbeats 400000 in
theorem refNumber_val (x : UInt64) (w : World) : Calls Tryd.prog 15 #[.float .f64 (fb x)] w fun e w' => e = .returned (VA 1 (canon x) []) ∧ Below w.heap.size w w' := by
  go_enter Tryd.func15, Tryd.ntmps15
  go_wp2_with (go_at_call 48; ((with_reducible refine (refCanon_any _ _).mono ?_); rintro e w' ⟨rfl, rfl⟩))
  exact bodyPost_ret (v := VA 1 (canon x) []) (by simp [results, Tryd.results15, go_sem, VA] <;> first | rfl | exact ⟨rfl, rfl⟩ | exact ⟨rfl, rfl, rfl⟩) rfl ⟨rfl, by first | exact (Below.refl _ _).alloc (Nat.le_refl _) _ | exact ((Below.refl _ _).alloc (Nat.le_refl _) _).setCell (Nat.le_refl _) _⟩
/-- The value of a text. -/
def wordsK (s : List UInt8) : Int := if 64 < s.length then 0 else 2
def wordsS (s : List UInt8) : List UInt8 := if 64 < s.length then [] else s
set_option maxHeartbeats 400000 in
theorem words_val (s : List UInt8) (w : World) : Calls Tryd.prog 16 #[.string (bs s)] w fun e w' => e = .returned (VA (wordsK s) 0 (wordsS s)) ∧ Below w.heap.size w w' := by
  by_cases h : 64 < s.length
  · have h1 : wordsK s = 0 := if_pos h
    have h2 : wordsS s = [] := if_pos h
    rw [h1, h2]
    have hd : decide ((64 : Int) < (s.length : Int)) = true := decide_eq_true (by omega)
    clear h h1 h2
    go_enter Tryd.func16, Tryd.ntmps16
    go_wp2
    exact bodyPost_ret (v := VA 0 0 []) (by simp [results, Tryd.results16, go_sem, VA] <;> first | rfl | exact ⟨rfl, rfl⟩ | exact ⟨rfl, rfl, rfl⟩) rfl ⟨rfl, by first | exact (Below.refl _ _).alloc (Nat.le_refl _) _ | exact ((Below.refl _ _).alloc (Nat.le_refl _) _).setCell (Nat.le_refl _) _⟩
  · have h1 : wordsK s = 2 := if_neg h
    have h2 : wordsS s = s := if_neg h
    rw [h1, h2]
    have hd : decide ((64 : Int) < (s.length : Int)) = false := decide_eq_false (by omega)
    clear h h1 h2
    go_enter Tryd.func16, Tryd.ntmps16
    go_wp2
    exact bodyPost_ret (v := VA 2 0 s) (by simp [results, Tryd.results16, go_sem, VA] <;> first | rfl | exact ⟨rfl, rfl⟩ | exact ⟨rfl, rfl, rfl⟩) rfl ⟨rfl, by first | exact (Below.refl _ _).alloc (Nat.le_refl _) _ | exact ((Below.refl _ _).alloc (Nat.le_refl _) _).setCell (Nat.le_refl _) _⟩
set_option maxHeartbeats 400000 in
theorem refWords_val (s : List UInt8) (w : World) : Calls Tryd.prog 17 #[.string (bs s)] w fun e w' => e = .returned (VA (wordsK s) 0 (wordsS s)) ∧ Below w.heap.size w w' := by
  by_cases h : 64 < s.length
  · have h1 : wordsK s = 0 := if_pos h
    have h2 : wordsS s = [] := if_pos h
    rw [h1, h2]
    have hd : decide ((64 : Int) < (s.length : Int)) = true := decide_eq_true (by omega)
    clear h h1 h2
    go_enter Tryd.func17, Tryd.ntmps17
    go_wp2
    exact bodyPost_ret (v := VA 0 0 []) (by simp [results, Tryd.results17, go_sem, VA] <;> first | rfl | exact ⟨rfl, rfl⟩ | exact ⟨rfl, rfl, rfl⟩) rfl ⟨rfl, by first | exact (Below.refl _ _).alloc (Nat.le_refl _) _ | exact ((Below.refl _ _).alloc (Nat.le_refl _) _).setCell (Nat.le_refl _) _⟩
  · have h1 : wordsK s = 2 := if_neg h
    have h2 : wordsS s = s := if_neg h
    rw [h1, h2]
    have hd : decide ((64 : Int) < (s.length : Int)) = false := decide_eq_false (by omega)
    clear h h1 h2
    go_enter Tryd.func17, Tryd.ntmps17
    go_wp2
    exact bodyPost_ret (v := VA 2 0 s) (by simp [results, Tryd.results17, go_sem, VA] <;> first | rfl | exact ⟨rfl, rfl⟩ | exact ⟨rfl, rfl, rfl⟩) rfl ⟨rfl, by first | exact (Below.refl _ _).alloc (Nat.le_refl _) _ | exact ((Below.refl _ _).alloc (Nat.le_refl _) _).setCell (Nat.le_refl _) _⟩
set_option maxHeartbeats 400000 in
theorem small_val (k : Int) (x : UInt64) (s : List UInt8) (w : World) : Calls Tryd.prog 12 #[VA k x s] w fun e w' => e = .returned (.bool (decide (s.length ≤ 2000))) ∧ Below w.heap.size w w' := by
  unfold VA
  by_cases h : s.length ≤ 2000
  · rw [decide_eq_true h]
    have hd : decide ((s.length : Int) ≤ 2000) = true := decide_eq_true (by omega)
    clear h
    go_enter Tryd.func12, Tryd.ntmps12
    go_wp2
    go_ret
    exact ⟨rfl, (Below.refl _ _).alloc (Nat.le_refl _) _⟩
  · rw [decide_eq_false h]
    have hd : decide ((s.length : Int) ≤ 2000) = false := decide_eq_false (by omega)
    clear h
    go_enter Tryd.func12, Tryd.ntmps12
    go_wp2
    go_ret
    exact ⟨rfl, (Below.refl _ _).alloc (Nat.le_refl _) _⟩

/-! ### Behind a call that makes memory -/
theorem bcell {W w1 : World} (hb : Below W.heap.size W w1) : (∀ b o, b < W.heap.size → w1.cell? ⟨b, o, none⟩ = W.cell? ⟨b, o, none⟩) ∧ (∀ b o, b < W.heap.size → w1.frozen? ⟨b, o, none⟩ = W.frozen? ⟨b, o, none⟩) :=
  ⟨fun b o h => hb.cell (p := ⟨b, o, none⟩) h, fun b o h => hb.frozen (p := ⟨b, o, none⟩) h⟩
theorem below2 {w w1 : World} {o1 o2 : Obj} (hb : Below ((w.alloc o1).alloc o2).heap.size ((w.alloc o1).alloc o2) w1) : Below w.heap.size w w1 ∧ w.heap.size < w1.heap.size ∧ w.heap.size + 1 < w1.heap.size :=
  ⟨(((Below.refl _ _).alloc (Nat.le_refl _) _).alloc (by simp) _).trans (hb.mono (by simp; omega)), by have := hb.size; simp at this; omega⟩
theorem below3 {w w1 : World} {o1 o2 o3 : Obj} (hb : Below (((w.alloc o1).alloc o2).alloc o3).heap.size (((w.alloc o1).alloc o2).alloc o3) w1) : Below w.heap.size w w1 ∧ w.heap.size < w1.heap.size ∧ w.heap.size + 1 < w1.heap.size ∧ w.heap.size + 1 + 1 < w1.heap.size :=
  ⟨((((Below.refl _ _).alloc (Nat.le_refl _) _).alloc (by simp) _).alloc (by simp; omega) _).trans (hb.mono (by simp; omega)), by have := hb.size; simp at this; omega⟩
theorem later3 {n : Nat} {w1 w2 : World} (h : n < w1.heap.size ∧ n + 1 < w1.heap.size ∧ n + 1 + 1 < w1.heap.size) (hb : Below w1.heap.size w1 w2) : n < w2.heap.size ∧ n + 1 < w2.heap.size ∧ n + 1 + 1 < w2.heap.size := by
  have := hb.size; omega
theorem later2 {n : Nat} {w1 w2 : World} (h : n < w1.heap.size ∧ n + 1 < w1.heap.size) (hb : Below w1.heap.size w1 w2) : n < w2.heap.size ∧ n + 1 < w2.heap.size := by
  have := hb.size; omega
end Go.Proofs.YtecgjhjglklcnaaDoor
