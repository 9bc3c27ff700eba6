/-
  Plain laws: frames of which one byte is turned, or that are cut off. No program in sight.
-/
import Derived.Test.YtjjcilinghgphaaF0b
namespace Go.Proofs.Ytjjcilinghgphaa

def endTo (ls : List (List UInt8)) (k : Nat) : Nat := (joinF (ls.take k)).length
theorem endTo_zero (ls : List (List UInt8)) : endTo ls 0 = 0 := rfl
theorem endTo_succ (ls : List (List UInt8)) (k : Nat) (h : k < ls.length) : endTo ls (k + 1) = endTo ls k + (12 + (ls.getD k []).length) := by
  unfold endTo
  rw [List.take_succ_eq_append_getElem h, joinF_append]
  simp [joinF, frameOf_length, List.getD, h]; omega
theorem endTo_all (ls : List (List UInt8)) (k : Nat) (h : ls.length ≤ k) : endTo ls k = (joinF ls).length := by
  unfold endTo; rw [List.take_of_length_le h]
theorem join_split (ls : List (List UInt8)) (k : Nat) (h : k < ls.length) : joinF ls = joinF (ls.take k) ++ (frameOf (ls.getD k []) ++ joinF (ls.drop (k + 1))) := by
  have e : ls = ls.take k ++ (ls.getD k [] :: ls.drop (k + 1)) := by simp [List.getD, h]
  conv => lhs; rw [e, joinF_append]
  rfl
theorem scan_torn (ls : List (List UInt8)) (hs : ∀ p ∈ ls, p.length ≤ 262144) (k i : Nat) (hk : k < ls.length) (h1 : endTo ls k ≤ i) (h2 : i < endTo ls (k + 1)) :
    scan ((joinF ls).take i) = (ls.take k, endTo ls k) ∧ ∀ y, y ≠ (joinF ls).getD i 0 → scan ((joinF ls).set i y) = (ls.take k, endTo ls k) := by
  rw [endTo_succ ls k hk] at h2
  have hp : (ls.getD k []).length ≤ 262144 := hs _ (by simp [List.getD, hk])
  have hl : (joinF (ls.take k)).length = endTo ls k := rfl
  have hf := frameOf_length (ls.getD k [])
  have ht : ∀ q ∈ ls.take k, q.length ≤ 262144 := fun q hq => hs q (List.mem_of_mem_take hq)
  have hn : ∀ b, whole b = false → scan (joinF (ls.take k) ++ b) = (ls.take k, endTo ls k) := by
    intro b hb
    rw [scan_joinF _ _ ht, scan_none hb]; simp [hl]
  rw [join_split ls k hk]
  generalize ls.getD k [] = p at *
  refine ⟨?_, fun y hy => ?_⟩
  · rw [List.take_append, hl, List.take_of_length_le (by omega), List.take_append_of_le_length (by omega)]
    exact hn _ (whole_cut p hp _ (by omega))
  · rw [List.set_append_right _ _ (by omega), hl, List.set_append_left _ _ (by omega)]
    refine hn _ (whole_turned p _ hp _ (by omega) y ?_)
    intro e
    apply hy
    rw [e]
    simp [List.getD, List.getElem?_append_right (show (joinF (ls.take k)).length ≤ i by omega), hl, List.getElem?_append_left (show i - endTo ls k < (frameOf p).length by omega)]
end Go.Proofs.Ytjjcilinghgphaa
