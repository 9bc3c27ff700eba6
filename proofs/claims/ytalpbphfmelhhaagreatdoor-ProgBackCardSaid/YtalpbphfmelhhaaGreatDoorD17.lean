/-
  Plain laws: the order of values turns round and goes through; two values are the same just if their texts are.
-/
import Derived.Test.YtalpbphfmelhhaaGreatDoorDE
namespace Go.Proofs.YtalpbphfmelhhaaGreatDoor
open Go.RowKit Go.Shelf Go.Sort
theorem bl_irrefl : ∀ a : List UInt8, Op.bytesLess a a = false
  | [] => rfl
  | a :: x => by simp [Op.bytesLess, bl_irrefl x]
theorem bl_total : ∀ a b : List UInt8, Op.bytesLess a b = true ∨ a = b ∨ Op.bytesLess b a = true
  | [], [] => .inr (.inl rfl)
  | [], _ :: _ => .inl rfl
  | _ :: _, [] => .inr (.inr rfl)
  | a :: x, b :: y => by
    have ih := bl_total x y
    simp only [Op.bytesLess, Bool.or_eq_true, Bool.and_eq_true, decide_eq_true_eq, beq_iff_eq, List.cons.injEq]
    rcases Nat.lt_trichotomy a.toNat b.toNat with h | h | h
    · exact .inl (.inl (UInt8.lt_iff_toNat_lt.2 h))
    · have hab : a = b := UInt8.toNat_inj.1 h
      subst hab
      rcases ih with h1 | h1 | h1
      · exact .inl (.inr ⟨rfl, h1⟩)
      · exact .inr (.inl ⟨rfl, h1⟩)
      · exact .inr (.inr (.inr ⟨rfl, h1⟩))
    · exact .inr (.inr (.inl (UInt8.lt_iff_toNat_lt.2 h)))
theorem bl_asymm : ∀ {a b : List UInt8}, Op.bytesLess a b = true → Op.bytesLess b a = false
  | [], [], h => by simp [Op.bytesLess] at h
  | [], _ :: _, _ => rfl
  | _ :: _, [], h => by simp [Op.bytesLess] at h
  | a :: x, b :: y, h => by
    simp only [Op.bytesLess, Bool.or_eq_true, Bool.and_eq_true, decide_eq_true_eq, beq_iff_eq] at h
    simp only [Op.bytesLess, Bool.or_eq_false_iff, Bool.and_eq_false_iff, decide_eq_false_iff_not, beq_eq_false_iff_ne]
    rcases h with h | ⟨rfl, h⟩
    · have h' := UInt8.lt_iff_toNat_lt.1 h
      exact ⟨fun h2 => by have := UInt8.lt_iff_toNat_lt.1 h2; omega, .inl fun e => by rw [e] at h'; omega⟩
    · exact ⟨fun h2 => by have := UInt8.lt_iff_toNat_lt.1 h2; omega, .inr (bl_asymm h)⟩
theorem bl_trans : ∀ {a b c : List UInt8}, Op.bytesLess a b = true → Op.bytesLess b c = true → Op.bytesLess a c = true
  | [], _, [], h1, h2 => by cases ‹List UInt8› <;> simp [Op.bytesLess] at h1 h2
  | [], _, _ :: _, _, _ => rfl
  | _ :: _, [], _, h1, _ => by simp [Op.bytesLess] at h1
  | _ :: _, _ :: _, [], _, h2 => by simp [Op.bytesLess] at h2
  | a :: x, b :: y, c :: z, h1, h2 => by
    simp only [Op.bytesLess, Bool.or_eq_true, Bool.and_eq_true, decide_eq_true_eq, beq_iff_eq] at h1 h2 ⊢
    rcases h1 with h1 | ⟨rfl, h1⟩ <;> rcases h2 with h2 | ⟨rfl, h2⟩
    · left; have e1 := UInt8.lt_iff_toNat_lt.1 h1; have e2 := UInt8.lt_iff_toNat_lt.1 h2; exact UInt8.lt_iff_toNat_lt.2 (by omega)
    · exact .inl h1
    · exact .inl h2
    · exact .inr ⟨rfl, bl_trans h1 h2⟩
theorem cmpText_zero {a b : List UInt8} : cmpText a b = 0 ↔ a = b := by
  unfold cmpText
  constructor
  · intro h
    split at h
    · cases h
    · split at h
      · rename_i h2; exact eq_of_beq h2
      · cases h
  · rintro rfl; rw [bl_irrefl]; simp
theorem cmpText_neg {a b : List UInt8} : cmpText a b = -1 ↔ Op.bytesLess a b = true := by
  unfold cmpText
  constructor
  · intro h; split at h
    · assumption
    · split at h <;> cases h
  · intro h; rw [if_pos h]
theorem cmpText_pos {a b : List UInt8} : cmpText a b = 1 ↔ Op.bytesLess b a = true := by
  unfold cmpText
  constructor
  · intro h; split at h
    · cases h
    · rename_i h1
      split at h
      · cases h
      · rename_i h2
        rcases bl_total a b with h3 | h3 | h3
        · exact absurd h3 h1
        · subst h3; simp at h2
        · exact h3
  · intro h
    rw [if_neg (by rw [bl_asymm h]; decide), if_neg]
    intro e; rw [eq_of_beq e, bl_irrefl] at h; cases h
theorem cmpText_cases (a b : List UInt8) : cmpText a b = -1 ∨ cmpText a b = 0 ∨ cmpText a b = 1 := by unfold cmpText; split <;> (try split) <;> simp
theorem cmpText_turn (a b : List UInt8) : cmpText b a = -cmpText a b := by
  rcases cmpText_cases a b with h | h | h
  · rw [h]; exact cmpText_pos.2 (cmpText_neg.1 h)
  · rw [h]; exact cmpText_zero.2 (cmpText_zero.1 h).symm
  · rw [h]; exact cmpText_neg.2 (cmpText_pos.1 h)
theorem cmpText_le {a b : List UInt8} : cmpText a b ≤ 0 ↔ Op.bytesLess a b = true ∨ a = b := by
  rcases cmpText_cases a b with h | h | h
  · rw [h]; exact ⟨fun _ => .inl (cmpText_neg.1 h), fun _ => by decide⟩
  · rw [h]; exact ⟨fun _ => .inr (cmpText_zero.1 h), fun _ => by decide⟩
  · rw [h]
    refine ⟨fun h2 => absurd h2 (by decide), fun h2 => ?_⟩
    have h3 := cmpText_pos.1 h
    rcases h2 with h2 | rfl
    · rw [bl_asymm h2] at h3; cases h3
    · rw [bl_irrefl] at h3; cases h3
theorem cmpText_through {a b c : List UInt8} (h1 : cmpText a b ≤ 0) (h2 : cmpText b c ≤ 0) : cmpText a c ≤ 0 := by
  rw [cmpText_le] at *
  rcases h1 with h1 | rfl
  · rcases h2 with h2 | rfl
    · exact .inl (bl_trans h1 h2)
    · exact .inl h1
  · exact h2
theorem cmpOf_turn (x y : UInt64) : cmpOf y x = -cmpOf x y := by
  rw [cmp_nat', cmp_nat']
  generalize rankN (canon x).toNat = a
  generalize rankN (canon y).toNat = b
  split <;> split <;> (try split) <;> (try split) <;> omega
theorem cmpOf_through {x y z : UInt64} (h1 : cmpOf x y ≤ 0) (h2 : cmpOf y z ≤ 0) : cmpOf x z ≤ 0 := by
  rw [cmp_nat'] at *
  generalize rankN (canon x).toNat = a at *
  generalize rankN (canon y).toNat = b at *
  generalize rankN (canon z).toNat = c at *
  split at h1 <;> split at h2 <;> split <;> (try split at h1) <;> (try split at h2) <;> (try split) <;> omega
theorem cmpOf_zero {x y : UInt64} : cmpOf x y = 0 ↔ canon x = canon y := by
  rw [cmp_nat']
  constructor
  · intro h
    apply UInt64.toNat_inj.1
    apply rankN_inj (canon x).toNat_lt (canon y).toNat_lt
    split at h
    · cases h
    · split at h
      · cases h
      · omega
  · intro h; rw [h]; simp
theorem cmpOf_cases (x y : UInt64) : cmpOf x y = -1 ∨ cmpOf x y = 0 ∨ cmpOf x y = 1 := by rw [cmp_nat']; split <;> (try split) <;> simp
section
variable {ka : Int} {xa : UInt64} {sa : List UInt8} {kb : Int} {xb : UInt64} {sb : List UInt8} {kc : Int} {xc : UInt64} {sc : List UInt8}
theorem cmpV_may (ha : mayB ka xa sa = true) (hb : mayB kb xb sb = true) : cmpV ka xa sa kb xb sb = if ka < kb then -1 else if kb < ka then 1 else if ka = 1 then cmpOf xa xb else cmpText sa sb := by
  unfold cmpV; rw [ha, hb, if_neg (by simp)]
theorem cmpV_cases (ka : Int) (xa : UInt64) (sa : List UInt8) (kb : Int) (xb : UInt64) (sb : List UInt8) : cmpV ka xa sa kb xb sb = -1 ∨ cmpV ka xa sa kb xb sb = 0 ∨ cmpV ka xa sa kb xb sb = 1 := by
  unfold cmpV
  split
  · simp
  · split
    · simp
    · split
      · simp
      · split
        · exact cmpOf_cases _ _
        · exact cmpText_cases _ _
theorem cmpV_turn (ha : mayB ka xa sa = true) (hb : mayB kb xb sb = true) : cmpV kb xb sb ka xa sa = -cmpV ka xa sa kb xb sb := by
  rw [cmpV_may ha hb, cmpV_may hb ha]
  by_cases h1 : ka < kb
  · simp only [if_pos h1, if_neg (show ¬ kb < ka by omega)]; rfl
  · by_cases h2 : kb < ka
    · simp only [if_neg h1, if_pos h2]
    · rw [if_neg h1, if_neg h2, if_neg h2, if_neg h1]
      have e : ka = kb := by omega
      subst e
      by_cases h3 : ka = 1
      · rw [if_pos h3, if_pos h3]; exact cmpOf_turn _ _
      · rw [if_neg h3, if_neg h3]; exact cmpText_turn _ _
theorem cmpV_self (ha : mayB ka xa sa = true) : cmpV ka xa sa ka xa sa = 0 := by
  have := cmpV_turn ha ha; omega
theorem cmpV_through (ha : mayB ka xa sa = true) (hb : mayB kb xb sb = true) (hc : mayB kc xc sc = true) (h1 : cmpV ka xa sa kb xb sb ≤ 0) (h2 : cmpV kb xb sb kc xc sc ≤ 0) : cmpV ka xa sa kc xc sc ≤ 0 := by
  rw [cmpV_may ha hb] at h1
  rw [cmpV_may hb hc] at h2
  rw [cmpV_may ha hc]
  by_cases e1 : ka < kb
  · by_cases e2 : kc < kb
    · rw [if_neg (by omega), if_pos e2] at h2; exact absurd h2 (by decide)
    · rw [if_pos (by omega)]; decide
  · by_cases e1' : kb < ka
    · rw [if_neg e1, if_pos e1'] at h1; exact absurd h1 (by decide)
    · have e : ka = kb := by omega
      subst e
      by_cases e2 : ka < kc
      · rw [if_pos e2]; decide
      · by_cases e3 : kc < ka
        · rw [if_neg e2, if_pos e3] at h2; exact absurd h2 (by decide)
        · have e4 : ka = kc := by omega
          subst e4
          rw [if_neg e1, if_neg e1] at h1 h2 ⊢
          by_cases e5 : ka = 1
          · rw [if_pos e5] at h1 h2 ⊢; exact cmpOf_through h1 h2
          · rw [if_neg e5] at h1 h2 ⊢; exact cmpText_through h1 h2
theorem may_one {x : UInt64} {s : List UInt8} (h : mayB 1 x s = true) : s = [] ∧ x = canon x := by
  unfold mayB at h
  rw [if_neg (by decide), if_pos rfl, Bool.and_eq_true] at h
  exact ⟨by simpa using h.1, eq_of_beq h.2⟩
theorem may_two {x : UInt64} {s : List UInt8} (h : mayB 2 x s = true) : x = 0 ∧ s.length ≤ 64 := by
  unfold mayB at h
  rw [if_neg (by decide), if_neg (by decide), if_pos rfl, Bool.and_eq_true] at h
  exact ⟨eq_of_beq h.1, of_decide_eq_true h.2⟩
/-- Two values that may be stand as one just if they are one. -/
theorem cmpV_zero (ha : mayB ka xa sa = true) (hb : mayB kb xb sb = true) : cmpV ka xa sa kb xb sb = 0 ↔ ka = kb ∧ xa = xb ∧ sa = sb := by
  rw [cmpV_may ha hb]
  by_cases e1 : ka < kb
  · rw [if_pos e1]; exact ⟨fun h => absurd h (by decide), fun h => by omega⟩
  · by_cases e2 : kb < ka
    · rw [if_neg e1, if_pos e2]; exact ⟨fun h => absurd h (by decide), fun h => by omega⟩
    · rw [if_neg e1, if_neg e2]
      have e : ka = kb := by omega
      subst e
      rcases may_kinds ha with rfl | rfl | rfl
      · rw [if_neg (by decide), cmpText_zero]
        have a := may0 ha; have b := may0 hb
        exact ⟨fun h => ⟨rfl, by rw [a.1, b.1], h⟩, fun h => h.2.2⟩
      · rw [if_pos rfl, cmpOf_zero]
        have a := may_one ha; have b := may_one hb
        rw [← a.2, ← b.2]
        exact ⟨fun h => ⟨rfl, h, by rw [a.1, b.1]⟩, fun h => h.2.1⟩
      · rw [if_neg (by decide), cmpText_zero]
        have a := may_two ha; have b := may_two hb
        exact ⟨fun h => ⟨rfl, by rw [a.1, b.1], h⟩, fun h => h.2.2⟩
end
theorem print_inj {x y : UInt64} (h : printOf x = printOf y) : canon x = canon y := by
  have a := parse_print x; have b := parse_print y
  rw [h, b] at a
  exact (congrArg Prod.fst a).symm
theorem isDig34 : isDig 34 = false := by decide
/-- No number's text begins with a quote, and none is 'none'. -/
theorem print_not34 (x : UInt64) : bAt (printOf x) 0 ≠ 34 := by
  intro h
  rcases parse_ok (parse_print x) with h1 | h1 | h1 | h1 | h1 | ⟨neg, m, e, _, _, h1, _⟩
  · rw [h1.1] at h; exact absurd h (by decide)
  · rw [h1.1] at h; exact absurd h (by decide)
  · rw [h1.1] at h; exact absurd h (by decide)
  · rw [h1.1] at h; exact absurd h (by decide)
  · rw [h1.1] at h; exact absurd h (by decide)
  · rw [h1] at h
    unfold txt at h
    cases neg with
    | true => exact absurd (show (45 : UInt8) = 34 from h) (by decide)
    | false =>
      have hd := (digB_iff _).1 (dd_digB m)
      generalize Lib.decDigits m = d at h hd
      cases d with
      | nil => exact hd.1 rfl
      | cons c t =>
        have hc := hd.2.1
        simp only [List.all_cons, Bool.and_eq_true] at hc
        have : c = 34 := h
        rw [this] at hc; exact absurd hc.1 (by decide)
theorem print_notNone (x : UInt64) : printOf x ≠ [110, 111, 110, 101] := no_print (by decide +kernel) x
section
variable {ka : Int} {xa : UInt64} {sa : List UInt8} {kb : Int} {xb : UInt64} {sb : List UInt8}
theorem text0 {x : UInt64} {s : List UInt8} (h : mayB 0 x s = true) : textOf 0 x s = [110, 111, 110, 101] := by unfold textOf; rw [if_pos h]; rfl
theorem text1 {x : UInt64} {s : List UInt8} (h : mayB 1 x s = true) : textOf 1 x s = printOf x := by unfold textOf; rw [if_pos h]; rfl
theorem text2 {x : UInt64} {s : List UInt8} (h : mayB 2 x s = true) : textOf 2 x s = quoteOf s := by unfold textOf; rw [if_pos h]; rfl
theorem quote_head (s : List UInt8) : bAt (quoteOf s) 0 = 34 := rfl
/-- One text a value. -/
theorem text_inj (ha : mayB ka xa sa = true) (hb : mayB kb xb sb = true) : textOf ka xa sa = textOf kb xb sb ↔ ka = kb ∧ xa = xb ∧ sa = sb := by
  constructor
  · intro h
    rcases may_kinds ha with rfl | rfl | rfl <;> rcases may_kinds hb with rfl | rfl | rfl
    · have a := may0 ha; have b := may0 hb; rw [a.1, a.2, b.1, b.2]; exact ⟨rfl, rfl, rfl⟩
    · rw [text0 ha, text1 hb] at h; exact absurd h.symm (print_notNone _)
    · rw [text0 ha, text2 hb] at h; have := quote_head sb; rw [← h] at this; exact absurd this (by decide)
    · rw [text1 ha, text0 hb] at h; exact absurd h (print_notNone _)
    · rw [text1 ha, text1 hb] at h
      have a := may_one ha; have b := may_one hb
      have := print_inj h
      rw [← a.2, ← b.2] at this
      exact ⟨rfl, this, by rw [a.1, b.1]⟩
    · rw [text1 ha, text2 hb] at h; have := print_not34 xa; rw [h] at this; exact absurd rfl this
    · rw [text2 ha, text0 hb] at h; have := quote_head sa; rw [h] at this; exact absurd this (by decide)
    · rw [text2 ha, text1 hb] at h; have := print_not34 xb; rw [← h] at this; exact absurd rfl this
    · rw [text2 ha, text2 hb] at h
      have a := may_two ha; have b := may_two hb
      exact ⟨rfl, by rw [a.1, b.1], quoteOf_inj h⟩
  · rintro ⟨rfl, rfl, rfl⟩; rfl
/-- As the law asks it. -/
theorem one_text (ha : mayB ka xa sa = true) (hb : mayB kb xb sb = true) : (textOf ka xa sa == textOf kb xb sb) = (cmpV ka xa sa kb xb sb == 0) := by
  rw [Bool.eq_iff_iff, beq_iff_eq, beq_iff_eq, text_inj ha hb, cmpV_zero ha hb]
theorem same_cmp (ha : mayB ka xa sa = true) (hb : mayB kb xb sb = true) : sameB ka xa sa kb xb sb = (cmpV ka xa sa kb xb sb == 0) := by
  unfold sameB; rw [ha, hb]; rfl
end
end Go.Proofs.YtalpbphfmelhhaaGreatDoor
