/-
  Plain laws: the order of values turns round and goes through; two values are the same just if their texts are.
-/
import Derived.Test.YtalpbphfmelhhaaGreatDoorDE
namespace Go.Proofs.YtalpbphfmelhhaaGreatDoor
open Go.RowKit Go.Shelf Go.Sort
section
variable {ka : Int} {xa : UInt64} {sa : List UInt8} {kb : Int} {xb : UInt64} {sb : List UInt8} {kc : Int} {xc : UInt64} {sc : List UInt8}
theorem may_one {x : UInt64} {s : List UInt8} (h : mayB 1 x s = true) : s = [] ∧ x = canon x := by
  unfold mayB at h
  rw [if_neg (by decide), if_pos rfl, Bool.and_eq_true] at h
  exact ⟨by simpa using h.1, eq_of_beq h.2⟩
theorem may_two {x : UInt64} {s : List UInt8} (h : mayB 2 x s = true) : x = 0 ∧ s.length ≤ 64 := by
  unfold mayB at h
  rw [if_neg (by decide), if_neg (by decide), if_pos rfl, Bool.and_eq_true] at h
  exact ⟨eq_of_beq h.1, of_decide_eq_true h.2⟩
end
/-- No number's text begins with a quote, and none is 'none'. -/
theorem print_not34 (x : UInt64) : bAt (printOf x) 0 ≠ 34 := by
  intro h
  rcases parse_ok (parse_print x) with h1 | h1 | h1 | h1 | h1 | ⟨neg, m, e, _, _, h1, _⟩
  · rw [h1.1] at h; exact absurd h (by decide)
  · rw [h1.1] at h; exact absurd h (by decide)
  · rw [h1.1] at h; exact absurd h (by decide)
  · rw [h1.1] at h; exact absurd h (by decide)
  · rw [h1.1] at h; exact absurd h (by decide)
  · rw [h1] at h
    unfold txt at h
    cases neg with
    | true => exact absurd (show (45 : UInt8) = 34 from h) (by decide)
    | false =>
      have hd := (digB_iff _).1 (dd_digB m)
      generalize Lib.decDigits m = d at h hd
      cases d with
      | nil => exact hd.1 rfl
      | cons c t =>
        have hc := hd.2.1
        simp only [List.all_cons, Bool.and_eq_true] at hc
        have : c = 34 := h
        rw [this] at hc; exact absurd hc.1 (by decide)
theorem print_notNone (x : UInt64) : printOf x ≠ [110, 111, 110, 101] := no_print (by decide +kernel) x
section
variable {ka : Int} {xa : UInt64} {sa : List UInt8} {kb : Int} {xb : UInt64} {sb : List UInt8}
theorem text0 {x : UInt64} {s : List UInt8} (h : mayB 0 x s = true) : textOf 0 x s = [110, 111, 110, 101] := by unfold textOf; rw [if_pos h]; rfl
theorem text1 {x : UInt64} {s : List UInt8} (h : mayB 1 x s = true) : textOf 1 x s = printOf x := by unfold textOf; rw [if_pos h]; rfl
theorem text2 {x : UInt64} {s : List UInt8} (h : mayB 2 x s = true) : textOf 2 x s = quoteOf s := by unfold textOf; rw [if_pos h]; rfl
end
end Go.Proofs.YtalpbphfmelhhaaGreatDoor
