/-
  Plain laws: there and back, by bytes and by text.
-/
import Derived.Test.YtecgjhjglklcnaaDoorX13
import Derived.Test.YtecgjhjglklcnaaDoorD17
namespace Go.Proofs.YtecgjhjglklcnaaDoor
set_option maxRecDepth 100000
open Go.RowKit Go.Shelf Go.Sort
theorem may00 : mayB 0 0 [] = true := by decide
theorem may2_of {t : List UInt8} (h : ¬ 64 < t.length) : mayB 2 0 t = true := by
  unfold mayB; rw [if_neg (by decide), if_neg (by decide), if_pos rfl]; simp; omega
theorem may1_of {z : UInt64} (h : canon z = z) : mayB 1 z [] = true := by
  unfold mayB; rw [if_neg (by decide), if_pos rfl, h]; simp
/-- What is read is printed just so. -/
theorem parse_text {l : List UInt8} (h : (parseD l).e = 0) : textOf (parseD l).k (parseD l).x (parseD l).s = l := by
  unfold parseD at h ⊢
  by_cases hq : l.length ≠ 0 ∧ bAt l 0 = 34
  · rw [if_pos hq] at h ⊢
    rcases unqV_cases l with ⟨hu, _⟩ | ⟨t, hu, hl, _⟩
    · rw [hu] at h; exact absurd h (by decide)
    · rw [hu] at h ⊢
      by_cases h64 : 64 < t.length
      · simp only [if_pos h64] at h; exact absurd h (by decide)
      · simp only [if_neg h64]; rw [text2 (may2_of h64)]; exact hl.symm
  · rw [if_neg hq] at h ⊢
    by_cases hn : l = [110, 111, 110, 101]
    · rw [if_pos hn]; rw [hn]; exact text0 may00
    · rw [if_neg hn] at h ⊢
      by_cases hp : (parseOf l).2 = 0
      · rw [if_pos hp]
        have hz : parseOf l = ((parseOf l).1, 0) := by rw [← hp]
        rw [text1 (may1_of (canon_canon _)), canon_print]
        exact print_parse hz
      · rw [if_neg hp] at h; exact absurd h hp
/-- A value that may be comes back of its text. -/
theorem text_parse {k : Int} {x : UInt64} {s : List UInt8} (h : mayB k x s = true) : parseD (textOf k x s) = ⟨k, x, s, 0⟩ := by
  rcases may_kinds h with rfl | rfl | rfl
  · obtain ⟨rfl, rfl⟩ := may0 h
    rw [text0 h]
    unfold parseD
    rw [if_neg (by decide), if_pos rfl]
  · obtain ⟨rfl, hc⟩ := may_one h
    rw [text1 h]
    unfold parseD
    rw [if_neg (fun hh => print_not34 x hh.2), if_neg (print_notNone x), parse_print, if_pos rfl]
    simp only
    rw [canon_canon, ← hc]
  · obtain ⟨rfl, hl⟩ := may_two h
    rw [text2 h]
    unfold parseD
    rw [if_pos ⟨by have := quoteOf_len s; omega, quoteOf_head s⟩, unq_some]
    simp only
    rw [if_neg (by omega)]
theorem get_parts {k : Int} (hk : k = 0 ∨ k = 1 ∨ k = 2) (r : List UInt8) : cE (intB k ++ r) 0 2 4 = 0 ∧ rdN ((intB k ++ r).drop 0) = k ∧ cN (intB k ++ r) 0 = (intB k).length := by
  obtain ⟨h1, h2, h3⟩ := rd_intB k (by omega) (by omega) r
  refine ⟨?_, by rw [List.drop_zero]; exact h2, by unfold cN; rw [List.drop_zero]; omega⟩
  unfold cE
  rw [List.drop_zero, h1, h2, if_neg (by simp), if_neg (by omega), if_neg (by omega)]
theorem drop_int (k : Int) (r : List UInt8) : (intB k ++ r).drop (intB k).length = r := by rw [List.drop_left]
/-- A value that may be comes back of its bytes. -/
theorem get_put {k : Int} {x : UInt64} {s : List UInt8} (h : mayB k x s = true) : getG (putB k x s) = ⟨k, x, s, 0, 0, (putB k x s).length⟩ := by
  have hp : putB k x s = intB k ++ (if k = 1 then le8 8 (canon x) else if k = 2 then intB s.length ++ s else []) := if_pos h
  have hk := may_kinds h
  obtain ⟨g1, g2, g3⟩ := get_parts hk (if k = 1 then le8 8 (canon x) else if k = 2 then intB s.length ++ s else [])
  rw [← hp] at g1 g2 g3
  unfold getG
  rw [if_neg (by simp [g1]), g2, g3]
  rcases hk with rfl | rfl | rfl
  · obtain ⟨rfl, rfl⟩ := may0 h
    rw [if_neg (by decide), if_neg (by decide)]
    congr 1
    rw [hp, if_neg (by decide), if_neg (by decide), List.append_nil]
  · obtain ⟨rfl, hc⟩ := may_one h
    rw [if_pos rfl] at hp ⊢
    have hl : (putB 1 x []).length = (intB 1).length + 8 := by rw [hp, List.length_append, le8_len]
    have hU : fU (putB 1 x []) (intB 1).length = x := by
      unfold fU; rw [hp, drop_int, List.take_of_length_le (by rw [le8_len]; exact Nat.le_refl _), r8_back]; exact hc.symm
    have hE : fE (putB 1 x []) (intB 1).length = 0 := by
      unfold fE; rw [hU, if_neg (by omega), if_pos hc.symm]
    rw [if_pos hE, hU, hl]
  · obtain ⟨rfl, hs⟩ := may_two h
    rw [if_neg (by decide), if_pos rfl] at hp
    rw [if_neg (by decide), if_pos rfl]
    obtain ⟨r1, r2, r3⟩ := rd_intB (s.length : Int) (by omega) (by omega) s
    have hd : (putB 2 0 s).drop (intB 2).length = intB s.length ++ s := by rw [hp, drop_int]
    have hC : cE (putB 2 0 s) (intB 2).length 64 2 = 0 := by
      unfold cE; rw [hd, r1, r2, if_neg (by simp), if_neg (by omega), if_neg (by omega)]
    have hN : cN (putB 2 0 s) (intB 2).length = (intB 2 ++ intB s.length).length := by
      unfold cN; rw [hd, List.length_append]; omega
    have hl : (putB 2 0 s).length = (intB 2 ++ intB s.length).length + s.length := by rw [hp]; simp only [List.length_append]; omega
    have hE : tE (putB 2 0 s) (intB 2).length = 0 := by
      unfold tE; rw [hC, hN, hd, r2, if_neg (by simp), if_neg (by rw [Int.toNat_natCast]; omega)]
    have hS : tS (putB 2 0 s) (intB 2).length = s := by
      unfold tS; rw [hN, hd, r2, Int.toNat_natCast, hp, ← List.append_assoc, List.drop_left, List.take_length]
    have hT : tN (putB 2 0 s) (intB 2).length = (putB 2 0 s).length := by
      unfold tN; rw [hN, hd, r2, Int.toNat_natCast, hl]
    rw [if_pos hE, hS, hT]
theorem putB_len (k : Int) (x : UInt64) (s : List UInt8) (hs : s.length ≤ 2000) : (putB k x s).length ≤ 10000 := by
  unfold putB
  split
  · rename_i h
    have hk := may_kinds h
    have h1 := encU_len64 _ (zz_lt (n := k) (by omega) (by omega))
    have h2 := encU_len64 _ (zz_lt (n := (s.length : Int)) (by omega) (by omega))
    have h3 := le8_len 8 (canon x)
    change (intB k).length ≤ 10 at h1
    change (intB s.length).length ≤ 10 at h2
    rw [List.length_append]
    split
    · omega
    · split
      · rw [List.length_append]; omega
      · simp; omega
  · have h1 := encU_len64 _ (zz_lt (n := 0) (by omega) (by omega))
    change (intB 0).length ≤ 10 at h1
    omega
end Go.Proofs.YtecgjhjglklcnaaDoor
