/-
  Decimals in plain words: the number that digits write, and the digits of a number.
  Class and rank as whole numbers.
  Parse and Print, there and back, in plain words.
  Parse and Print, there and back, in plain words: the laws.
  The reference's way through a text's form, in plain words.
-/
import Derived.Test.YtalpbphfmelhhaaGreatDoorNE
import Derived.Laws.FloatBits
/-! ### Decimals in plain words: the number that digits write, and the digits of a number. -/
namespace Go.Proofs.YtalpbphfmelhhaaGreatDoor
set_option maxRecDepth 100000
open Go.RowKit Go.Shelf

/-- The number that digits write. -/
def dv (l : List UInt8) : Nat := decTo l l.length
theorem bAt_app (l m : List UInt8) (k : Nat) (h : k < l.length) : bAt (l ++ m) k = bAt l k := by
  simp [bAt, List.getElem?_append_left h]
theorem bAt_app2 (l m : List UInt8) (k : Nat) : bAt (l ++ m) (l.length + k) = bAt m k := by
  simp [bAt, List.getElem?_append_right (Nat.le_add_right _ _)]
theorem decTo_app (l m : List UInt8) (k : Nat) (h : k ≤ l.length) : decTo (l ++ m) k = decTo l k := by
  induction k with
  | zero => rfl
  | succ k ih =>
    show decTo (l ++ m) k * 10 + _ = decTo l k * 10 + _
    rw [ih (by omega), bAt_app l m k (by omega)]
theorem dv_snoc (l : List UInt8) (c : UInt8) : dv (l ++ [c]) = dv l * 10 + (c.toNat - 48) := by
  unfold dv
  rw [List.length_append, show [c].length = 1 from rfl]
  show decTo (l ++ [c]) l.length * 10 + _ = _
  rw [decTo_app l [c] l.length (Nat.le_refl _)]
  have : bAt (l ++ [c]) (l.length + 0) = bAt [c] 0 := bAt_app2 l [c] 0
  rw [Nat.add_zero] at this
  rw [this]; rfl
theorem dv_nil : dv [] = 0 := rfl
theorem dv_one (c : UInt8) : dv [c] = c.toNat - 48 := by
  have := dv_snoc [] c
  rw [dv_nil] at this
  simpa using this
theorem isDig_of {k : Nat} (h : k < 10) : isDig (UInt8.ofNat (48 + k)) = true := by
  unfold isDig
  apply decide_eq_true
  rw [UInt8.le_iff_toNat_le, UInt8.le_iff_toNat_le]
  have e : (UInt8.ofNat (48 + k)).toNat = 48 + k := by rw [UInt8.toNat_ofNat']; omega
  rw [e]
  show 48 ≤ 48 + k ∧ 48 + k ≤ 57
  omega
theorem val_of {k : Nat} (h : k < 10) : (UInt8.ofNat (48 + k)).toNat - 48 = k := by
  rw [UInt8.toNat_ofNat']; omega
theorem of_val {c : UInt8} (h : isDig c = true) : UInt8.ofNat (48 + (c.toNat - 48)) = c := by
  have := dig_nat h
  rw [show 48 + (c.toNat - 48) = c.toNat by omega]
  exact UInt8.toNat_inj.1 (by rw [UInt8.toNat_ofNat']; have := c.toNat_lt; omega)
theorem dd_small {n : Nat} (h : n < 10) : Lib.decDigits n = [UInt8.ofNat (48 + n)] := Lib.decDigits_one h
theorem dd_big {n : Nat} (h : ¬ n < 10) : Lib.decDigits n = Lib.decDigits (n / 10) ++ [UInt8.ofNat (48 + n % 10)] := by
  conv => lhs; rw [Lib.decDigits]
  rw [dif_neg h]
theorem dd_ne (n : Nat) : Lib.decDigits n ≠ [] := by
  by_cases h : n < 10
  · rw [dd_small h]; simp
  · rw [dd_big h]; simp
theorem dv_dd (n : Nat) : dv (Lib.decDigits n) = n := by
  induction n using Nat.strongRecOn with
  | _ n ih =>
    by_cases h : n < 10
    · rw [dd_small h, dv_one, val_of h]
    · rw [dd_big h, dv_snoc, ih (n / 10) (by omega), val_of (by omega)]; omega
theorem dd_all (n : Nat) : (Lib.decDigits n).all isDig = true := by
  induction n using Nat.strongRecOn with
  | _ n ih =>
    by_cases h : n < 10
    · rw [dd_small h, List.all_cons, isDig_of h]; rfl
    · rw [dd_big h, List.all_append, ih (n / 10) (by omega), List.all_cons, isDig_of (by omega)]; rfl
theorem head_app {l m : List UInt8} (h : l ≠ []) : (l ++ m).head? = l.head? := by
  cases l with
  | nil => exact absurd rfl h
  | cons a t => rfl
theorem dd_head (n : Nat) (h : n ≠ 0) : (Lib.decDigits n).head? ≠ some 48 := by
  induction n using Nat.strongRecOn with
  | _ n ih =>
    by_cases h10 : n < 10
    · rw [dd_small h10]
      intro hc
      have hc := Option.some.inj hc
      have := val_of h10
      rw [hc] at this
      exact h (by simpa using this.symm)
    · rw [dd_big h10, head_app (dd_ne _)]; exact ih (n / 10) (by omega) (by omega)
/-- What digB says. -/
theorem digB_iff (l : List UInt8) : digB l = true ↔ l ≠ [] ∧ l.all isDig = true ∧ (l.head? = some 48 → l.length ≤ 1) := by
  unfold digB
  cases l with
  | nil => simp
  | cons a t =>
    rw [Bool.and_eq_true, Bool.not_eq_true', Bool.or_eq_false_iff, Bool.and_eq_false_iff]
    constructor
    · rintro ⟨⟨_, h2⟩, h3⟩
      refine ⟨by simp, h3, fun hc => ?_⟩
      rcases h2 with h2 | h2
      · rw [hc] at h2; exact absurd h2 (by decide)
      · have := of_decide_eq_false h2; omega
    · rintro ⟨_, h2, h3⟩
      refine ⟨⟨rfl, ?_⟩, h2⟩
      by_cases hc : (a :: t).head? = some 48
      · exact Or.inr (decide_eq_false (by have := h3 hc; omega))
      · exact Or.inl (beq_eq_false_iff_ne.2 hc)
theorem dd_digB (n : Nat) : digB (Lib.decDigits n) = true := by
  rw [digB_iff]
  refine ⟨dd_ne n, dd_all n, fun h => ?_⟩
  by_cases h0 : n = 0
  · rw [h0, dd_small (by decide)]; exact Nat.le_refl _
  · exact absurd h (dd_head n h0)
theorem dd_dv : ∀ (k : Nat) (l : List UInt8), l.length = k → digB l = true → Lib.decDigits (dv l) = l
  | 0, l, hk, h => by
    have := List.eq_nil_of_length_eq_zero hk
    subst this; cases h
  | k + 1, l, hk, h => by
    obtain ⟨h1, h2, h3⟩ := (digB_iff l).1 h
    obtain ⟨m, c, rfl⟩ : ∃ m c, l = m ++ [c] := ⟨l.dropLast, l.getLast h1, (List.dropLast_concat_getLast h1).symm⟩
    have hm : m.length = k := by simpa using hk
    rw [List.all_append, Bool.and_eq_true] at h2
    obtain ⟨h2, hc⟩ := h2
    have hc : isDig c = true := by simpa using hc
    have hcv := dig_nat hc
    rw [dv_snoc]
    by_cases hme : m = []
    · subst hme
      rw [dv_nil, dd_small (by omega), Nat.zero_mul, Nat.zero_add, of_val hc]; rfl
    · have hml : m.length ≠ 0 := fun h => hme (List.eq_nil_of_length_eq_zero h)
      have hh : m.head? ≠ some 48 := fun e => by
        have := h3 (by rw [head_app hme]; exact e)
        simp at this; exact hme this
      have hB : digB m = true := (digB_iff m).2 ⟨hme, h2, fun e => absurd e hh⟩
      have ih := dd_dv k m hm hB
      have hpos : dv m ≠ 0 := fun e => by
        rw [e, dd_small (by decide)] at ih
        exact hh (by rw [← ih]; rfl)
      rw [dd_big (by omega), show (dv m * 10 + (c.toNat - 48)) / 10 = dv m by omega, show (dv m * 10 + (c.toNat - 48)) % 10 = c.toNat - 48 by omega, ih, of_val hc]
theorem dv_zero {a : List UInt8} (ha : digB a = true) : dv a = 0 ↔ a = [48] := by
  constructor
  · intro h
    have := dd_dv _ a rfl ha
    rw [h, dd_small (by decide)] at this
    exact this.symm
  · rintro rfl; rfl
/-- How long: a number below 10^k has at most k digits. -/
theorem dd_len (k : Nat) : ∀ n, n < 10 ^ k → 1 ≤ k → (Lib.decDigits n).length ≤ k := by
  induction k with
  | zero => intro n _ h; omega
  | succ k ih =>
    intro n hn _
    by_cases h : n < 10
    · rw [dd_small h]; simp
    · rw [dd_big h, List.length_append]
      have hk : 1 ≤ k := by
        rcases Nat.eq_zero_or_pos k with h0 | h0
        · subst h0; simp at hn; omega
        · exact h0
      have := ih (n / 10) (by rw [Nat.pow_succ] at hn; omega) hk
      simp; omega
theorem dv_bd {a : List UInt8} (ha : digB a = true) : dv a < 10 ^ a.length := decTo_bd a a.length ((all_bAt a isDig).1 ((digB_iff a).1 ha).2.1)

/-! ### The signed ones -/
theorem itoa_down (u : Nat) (h : u ≠ 0) : Lib.itoa (-(u : Int)) = 45 :: Lib.decDigits u := by
  unfold Lib.itoa; rw [if_pos (by omega)]; simp
theorem itoa_plain (u : Nat) : Lib.itoa (u : Int) = Lib.decDigits u := by
  unfold Lib.itoa; rw [if_neg (by omega)]; simp
theorem isDig45 : isDig 45 = false := by decide
theorem isDig112 : isDig 112 = false := by decide
theorem bAt0_head (l : List UInt8) (h : l ≠ []) : l.head? = some (bAt l 0) := by
  cases l with
  | nil => exact absurd rfl h
  | cons a t => rfl
theorem digB_not45 {a : List UInt8} (h : digB a = true) : bAt a 0 ≠ 45 := by
  obtain ⟨h1, h2, _⟩ := (digB_iff a).1 h
  have hl : 0 < a.length := List.length_pos_iff.2 h1
  have := (all_bAt a isDig).1 h2 0 hl
  intro hc; rw [hc, isDig45] at this; cases this
theorem digB_no112 {a : List UInt8} (h : a.all isDig = true) : ∀ c ∈ a, (c != 112) = true := by
  intro c hc
  have := List.all_eq_true.1 h c hc
  rw [bne_iff_ne]; rintro rfl
  rw [isDig112] at this; cases this
/-- Where the p stands. -/
theorem pAt_app {a r : List UInt8} (h : a.all isDig = true) : pAt (a ++ 112 :: r) = a.length := by
  unfold pAt
  rw [List.takeWhile_append_of_pos (digB_no112 h), List.takeWhile_cons]
  simp
end Go.Proofs.YtalpbphfmelhhaaGreatDoor

/-! ### Class and rank as whole numbers. -/
namespace Go.Proofs.YtalpbphfmelhhaaGreatDoor
set_option maxRecDepth 100000
open Go.RowKit Go.Shelf

/-- The class of a word that is canonical, of its number. -/
def clsN (n : Nat) : Int :=
  if 9218868437227405312 < n % 9223372036854775808 then 0
  else
    let k : Int := if n % 9223372036854775808 = 9218868437227405312 then 8 else if 4503599627370496 ≤ n % 9223372036854775808 then 7 else if 0 < n % 9223372036854775808 then 6 else 5
    if 9223372036854775808 ≤ n then 9 - k else k
def rankN (n : Nat) : Nat := if 9223372036854775808 ≤ n then 18446744073709551615 - n else n + 9223372036854775808
theorem u_eq_lit {x : UInt64} {k : UInt64} : x = k ↔ x.toNat = k.toNat := UInt64.toNat_inj.symm
theorem class_nat (x : UInt64) : classOf x = clsN (canon x).toNat := by
  unfold classOf
  generalize canon x = b
  unfold classC clsN
  have hb := b.toNat_lt
  have e1 : expW b = 2047 ↔ b.toNat / 4503599627370496 % 2048 = 2047 := by rw [u_eq_lit, expW_nat]; exact Iff.rfl
  have e2 : fracW b = 0 ↔ b.toNat % 4503599627370496 = 0 := by rw [u_eq_lit, fracW_nat]; exact Iff.rfl
  have e3 : (0 < expW b) ↔ 0 < b.toNat / 4503599627370496 % 2048 := by rw [UInt64.lt_iff_toNat_lt, expW_nat]; exact Iff.rfl
  have e4 : (0 < fracW b) ↔ 0 < b.toNat % 4503599627370496 := by rw [UInt64.lt_iff_toNat_lt, fracW_nat]; exact Iff.rfl
  have e5 : (b &&& topW ≠ 0) ↔ 9223372036854775808 ≤ b.toNat := top_ne0 b
  simp only [e1, e2, e3, e4, e5, ne_eq]
  by_cases h0 : 9218868437227405312 < b.toNat % 9223372036854775808
  · rw [if_pos h0, if_pos (by omega)]
  · rw [if_neg h0, if_neg (by omega)]
    by_cases h1 : b.toNat % 9223372036854775808 = 9218868437227405312
    · rw [if_pos (show b.toNat / 4503599627370496 % 2048 = 2047 by omega), if_pos h1]
    · rw [if_neg (show ¬ b.toNat / 4503599627370496 % 2048 = 2047 by omega), if_neg h1]
      by_cases h2 : 4503599627370496 ≤ b.toNat % 9223372036854775808
      · rw [if_pos (show 0 < b.toNat / 4503599627370496 % 2048 by omega), if_pos h2]
      · rw [if_neg (show ¬ 0 < b.toNat / 4503599627370496 % 2048 by omega), if_neg h2]
        by_cases h3 : 0 < b.toNat % 9223372036854775808
        · rw [if_pos (show 0 < b.toNat % 4503599627370496 by omega), if_pos h3]
        · rw [if_neg (show ¬ 0 < b.toNat % 4503599627370496 by omega), if_neg h3]
theorem canon_nat (x : UInt64) : (canon x).toNat = if 9218868437227405312 < x.toNat % 9223372036854775808 then 9221120237041090560 else x.toNat := by
  unfold canon nanB
  by_cases h : 9218868437227405312 < x.toNat % 9223372036854775808
  · rw [decide_eq_true h, if_pos rfl, if_pos h]; rfl
  · rw [decide_eq_false h, if_neg h]; rfl
/-- A canonical word. -/
theorem canon_ok (x : UInt64) : (canon x).toNat % 9223372036854775808 ≤ 9218868437227405312 ∨ (canon x).toNat = 9221120237041090560 := by
  rw [canon_nat]; split <;> omega
theorem canon_canon (x : UInt64) : canon (canon x) = canon x := by
  rw [u_eq_lit, canon_nat]
  have := canon_ok x
  split <;> omega
theorem canon_of {x : UInt64} (h : x.toNat % 9223372036854775808 ≤ 9218868437227405312) : canon x = x := by
  rw [u_eq_lit, canon_nat, if_neg (by omega)]
theorem class_canon (x : UInt64) : classOf (canon x) = classOf x := by
  rw [class_nat, class_nat, canon_canon]
theorem mag_nat (x : UInt64) : (magW x).toNat = (canon x).toNat % 9223372036854775808 := notop_nat _
theorem fin_of (x : UInt64) (h0 : classOf x ≠ 0) (h1 : ¬ (classOf x = 1 ∨ classOf x = 8)) (h4 : ¬ (classOf x = 4 ∨ classOf x = 5)) : FinW (magW x) := by
  refine ⟨?_, mag_ne0 x h0 (fun h => h4 (Or.inl h)) (fun h => h4 (Or.inr h))⟩
  rw [mag_nat]
  rw [class_nat] at h0 h1
  unfold clsN at h0 h1
  by_cases hn : 9218868437227405312 < (canon x).toNat % 9223372036854775808
  · rw [if_pos hn] at h0; exact absurd rfl h0
  · rw [if_neg hn] at h1
    by_cases he : (canon x).toNat % 9223372036854775808 = 9218868437227405312
    · exfalso
      apply h1
      rw [he]
      simp only [if_pos]
      split <;> simp
    · omega
theorem xortop_nat (x : UInt64) : (x ^^^ topW).toNat = if 9223372036854775808 ≤ x.toNat then x.toNat - 9223372036854775808 else x.toNat + 9223372036854775808 := by
  have hx := x.toNat_lt
  by_cases h : 9223372036854775808 ≤ x.toNat
  · rw [if_pos h, top_cases x ((top_ne0 x).2 h), notop_nat]; omega
  · rw [if_neg h]
    have h0 : x &&& topW = 0 := (top_eq0 x).2 (by omega)
    have id2 : ∀ a t : UInt64, a ^^^ t = (a ||| t) &&& ~~~(a &&& t) := by
      intro a t
      apply UInt64.toBitVec_inj.1
      simp only [UInt64.toBitVec_xor, UInt64.toBitVec_and, UInt64.toBitVec_not, UInt64.toBitVec_or]
      generalize a.toBitVec = p
      generalize t.toBitVec = q
      ext i hi
      simp only [BitVec.getElem_xor, BitVec.getElem_and, BitVec.getElem_not, BitVec.getElem_or]
      cases p[i] <;> cases q[i] <;> rfl
    rw [id2, h0, show (~~~(0 : UInt64)) = -1 from rfl, UInt64.and_neg_one, ortop_nat x (by omega)]
/-- The word of a sign and a size. -/
theorem mag_sign (x : UInt64) : (if canon x &&& topW ≠ 0 then magW x ^^^ topW else magW x) = canon x := by
  have hx := (canon x).toNat_lt
  by_cases h : canon x &&& topW ≠ 0
  · rw [if_pos h]
    have h2 := (top_ne0 _).1 h
    have hm : (magW x).toNat < 9223372036854775808 := by rw [mag_nat]; omega
    rw [u_eq_lit, xortop_nat, if_neg (by omega), mag_nat]; omega
  · have h' : canon x &&& topW = 0 := by simpa using h
    have h2 := (top_eq0 _).1 h'
    rw [if_neg h, u_eq_lit, mag_nat]; omega
end Go.Proofs.YtalpbphfmelhhaaGreatDoor

/-! ### Parse and Print, there and back, in plain words. -/
namespace Go.Proofs.YtalpbphfmelhhaaGreatDoor
set_option maxRecDepth 100000
open Go.RowKit Go.Shelf

/-- The text of a number: its sign, an odd m, e. -/
def txt (neg : Bool) (m : Nat) (e : Int) : List UInt8 := (if neg then [45] else []) ++ (Lib.decDigits m ++ 112 :: Lib.itoa e)
theorem print_num (x : UInt64) (h0 : classOf x ≠ 0) (h1 : ¬ (classOf x = 1 ∨ classOf x = 8)) (h4 : ¬ (classOf x = 4 ∨ classOf x = 5)) :
    printOf x = txt (decide (canon x &&& topW ≠ 0)) (partM (magW x)).toNat (partE (magW x)) := by
  unfold printOf txt signS
  rw [if_neg h0, if_neg h1, if_neg h4]
  by_cases hs : canon x &&& topW ≠ 0
  · rw [if_pos hs, decide_eq_true hs]; simp
  · rw [if_neg hs, decide_eq_false hs]; simp
theorem mem_p (neg : Bool) (m : Nat) (e : Int) : 112 ∈ txt neg m e := by unfold txt; simp
theorem bAt0_dd (m : Nat) : bAt (Lib.decDigits m) 0 ≠ 45 := digB_not45 (dd_digB m)
theorem negB_cons (c : UInt8) (t : List UInt8) : negB (c :: t) = decide (c = 45) := rfl
theorem negB_dd (m : Nat) (r : List UInt8) : negB (Lib.decDigits m ++ r) = false := by
  have h := bAt0_dd m
  have hn := dd_ne m
  cases hd : Lib.decDigits m with
  | nil => exact absurd hd hn
  | cons c t =>
    rw [hd] at h
    rw [List.cons_append, negB_cons]
    exact decide_eq_false h
theorem negB_txt (neg : Bool) (m : Nat) (e : Int) : negB (txt neg m e) = neg ∧ unsgn (txt neg m e) = Lib.decDigits m ++ 112 :: Lib.itoa e := by
  cases neg with
  | true =>
    have h : negB (txt true m e) = true := rfl
    exact ⟨h, by unfold unsgn; rw [h]; rfl⟩
  | false =>
    have h : negB (txt false m e) = false := negB_dd m _
    exact ⟨h, by unfold unsgn; rw [h]; rfl⟩
theorem negB_itoa (e : Int) : negB (Lib.itoa e) = decide (e < 0) ∧ unsgn (Lib.itoa e) = Lib.decDigits e.natAbs := by
  by_cases h : e < 0
  · have he : Lib.itoa e = 45 :: Lib.decDigits e.natAbs := by unfold Lib.itoa; rw [if_pos h]
    have hn : negB (Lib.itoa e) = true := by rw [he]; rfl
    rw [decide_eq_true h]
    exact ⟨hn, by unfold unsgn; rw [hn, he]; rfl⟩
  · have he : Lib.itoa e = Lib.decDigits e.natAbs := by unfold Lib.itoa; rw [if_neg h, show e.toNat = e.natAbs by omega]
    have hn : negB (Lib.itoa e) = false := by have := negB_dd e.natAbs []; rw [List.append_nil] at this; rw [he]; exact this
    rw [decide_eq_false h]
    exact ⟨hn, by unfold unsgn; rw [hn, he]; rfl⟩
theorem dropP (l r : List UInt8) (c : UInt8) : (l ++ c :: r).drop (l.length + 1) = r := by
  induction l with
  | nil => rfl
  | cons a t ih => exact ih
theorem InR.len {m : Nat} {e : Int} (h : InR m e) : (Lib.decDigits m).length ≤ 16 ∧ (Lib.decDigits e.natAbs).length ≤ 5 := by
  have h1 := h.lt
  have h2 := h.lo
  have h3 := h.hi
  have hl := h.log
  refine ⟨dd_len 16 m (Nat.lt_of_lt_of_le h1 (by decide)) (by decide), dd_len 5 _ ?_ (by decide)⟩
  rw [show (10 : Nat) ^ 5 = 100000 from rfl]
  have : (0 : Int) ≤ (m.log2 : Int) := Int.natCast_nonneg _
  omega
theorem InR.bl {m : Nat} {e : Int} (h : InR m e) : (Lib.bitLen m : Int) + e ≤ 1024 := by
  have h1 := h.lt
  rw [bitLen_log2 m h.ne (by omega)]
  have := h.hi
  omega
/-- The text of a number is read. -/
theorem parse_txt (neg : Bool) (m : Nat) (e : Int) (h : InR m e) (ho : m % 2 = 1) :
    parseOf (txt neg m e) = (if neg then ldW m e ^^^ topW else ldW m e, 0) := by
  have hp := mem_p neg m e
  have hw : ∀ l : List UInt8, 112 ∉ l → txt neg m e ≠ l := fun l hl hq => hl (hq ▸ hp)
  unfold parseOf
  rw [if_neg (hw _ (by decide)), if_neg (hw _ (by decide)), if_neg (hw _ (by decide)), if_neg (hw _ (by decide)), if_neg (hw _ (by decide))]
  obtain ⟨h1, h2⟩ := negB_txt neg m e
  obtain ⟨h3, h4⟩ := negB_itoa e
  rw [h1, h2]
  unfold parseTail
  rw [pAt_app (dd_all m), if_pos (by simp), List.take_left, dropP, h3, h4]
  obtain ⟨l1, l2⟩ := h.len
  have h1 := h.lt
  have h2 := h.lo
  have h3 := h.bl
  have hm0 : m ≠ 0 := h.ne
  unfold parseNum
  have dv1 : decTo (Lib.decDigits m) (Lib.decDigits m).length = m := dv_dd m
  have dv2 : decTo (Lib.decDigits e.natAbs) (Lib.decDigits e.natAbs).length = e.natAbs := dv_dd e.natAbs
  rw [dd_digB, dd_digB, dv1, dv2]
  have n1 : (Lib.decDigits m == [48]) = false := beq_eq_false_iff_ne.2 fun hq => hm0 (by have := dv_dd m; rw [hq] at this; exact this.symm)
  have n2 : (decide (e < 0) && (Lib.decDigits e.natAbs == [48])) = false := by
    by_cases he : e < 0
    · rw [decide_eq_true he, Bool.true_and]
      refine beq_eq_false_iff_ne.2 fun hq => ?_
      have := dv_dd e.natAbs; rw [hq] at this
      have : (0 : Nat) = e.natAbs := this
      omega
    · rw [decide_eq_false he]; rfl
  rw [n1, n2, if_neg (by decide), if_neg (by omega)]
  have he : (if decide (e < 0) = true then -((e.natAbs : Nat) : Int) else ((e.natAbs : Nat) : Int)) = e := by
    by_cases hz : e < 0
    · rw [decide_eq_true hz, if_pos rfl]; omega
    · rw [decide_eq_false hz, if_neg (by decide)]; omega
  simp only [he]
  rw [if_neg (by omega)]

/-! ### Back -/
/-- What is read without an error. -/
theorem parseNum_ok {neg : Bool} {a b : List UInt8} {down : Bool} {z : UInt64} (h : parseNum neg a down b = (z, 0)) :
    ∃ (m : Nat) (e : Int), InR m e ∧ m % 2 = 1 ∧ a = Lib.decDigits m ∧ (if down then 45 :: b else b) = Lib.itoa e ∧ z = if neg then ldW m e ^^^ topW else ldW m e := by
  unfold parseNum at h
  by_cases h1 : (!digB a || (a == [48]) || !digB b || (down && (b == [48]))) = true
  · rw [if_pos h1] at h; cases h
  rw [if_neg h1] at h
  by_cases h2 : 16 < a.length ∨ 5 < b.length ∨ 9007199254740992 ≤ decTo a a.length ∨ decTo a a.length % 2 = 0
  · rw [if_pos h2] at h; cases h
  rw [if_neg h2] at h
  simp only [] at h
  generalize he : (if down then -(decTo b b.length : Int) else (decTo b b.length : Int)) = e at h
  by_cases h3 : e < -1074 ∨ 1024 < (Lib.bitLen (decTo a a.length) : Int) + e
  · rw [if_pos h3] at h; cases h
  rw [if_neg h3] at h
  have hb : (!digB a || (a == [48]) || !digB b || (down && (b == [48]))) = false := by simpa using h1
  rw [Bool.or_eq_false_iff, Bool.or_eq_false_iff, Bool.or_eq_false_iff] at hb
  obtain ⟨⟨⟨b1, b2⟩, b3⟩, b4⟩ := hb
  have b1 : digB a = true := by simpa using b1
  have b3 : digB b = true := by simpa using b3
  have b2 : a ≠ [48] := by simpa using b2
  have hm0 : dv a ≠ 0 := fun hq => b2 ((dv_zero b1).1 hq)
  have hm0' : decTo a a.length ≠ 0 := hm0
  have hbl := bitLen_log2 (decTo a a.length) hm0 (by omega)
  refine ⟨dv a, e, ⟨hm0, by show decTo a a.length < _; omega, by omega, by show ((decTo a a.length).log2 : Int) + 1 + e ≤ _; omega⟩, by show decTo a a.length % 2 = 1; omega, (dd_dv _ a rfl b1).symm, ?_, ?_⟩
  · cases hd : down with
    | true =>
      rw [hd] at he b4
      have hz : b ≠ [48] := by simpa using b4
      have hne : dv b ≠ 0 := fun hq => hz ((dv_zero b3).1 hq)
      rw [if_pos rfl] at he ⊢
      rw [← he]
      show _ = Lib.itoa (-((dv b : Nat) : Int))
      rw [itoa_down _ hne, dd_dv _ b rfl b3]
    | false =>
      rw [hd] at he
      rw [if_neg (by decide)] at he ⊢
      rw [← he]
      show _ = Lib.itoa ((dv b : Nat) : Int)
      rw [itoa_plain, dd_dv _ b rfl b3]
  · have := (Prod.mk.inj h).1
    rw [← this]; rfl
theorem negB_unsgn (l : List UInt8) : l = (if negB l then [45] else []) ++ unsgn l := by
  unfold unsgn
  cases l with
  | nil => rfl
  | cons c t =>
    by_cases hc : c = 45
    · subst hc; rfl
    · have : negB (c :: t) = false := decide_eq_false hc
      rw [this]; rfl
theorem pAt_split (l : List UInt8) (h : pAt l < l.length) : l = l.take (pAt l) ++ 112 :: l.drop (pAt l + 1) := by
  have h2 := (pAt_spec l).2 h
  conv => lhs; rw [← List.take_append_drop (pAt l) l]
  congr 1
  rw [List.drop_eq_getElem_cons h]
  congr 1
  simpa [bAt, h] using h2
/-- What is read without an error is one of the five words, or the text of a number. -/
theorem parse_ok {l : List UInt8} {z : UInt64} (h : parseOf l = (z, 0)) :
    (l = [110, 97, 110] ∧ z = nanW) ∨ (l = [105, 110, 102] ∧ z = 9218868437227405312) ∨ (l = [45, 105, 110, 102] ∧ z = 18442240474082181120) ∨ (l = [48] ∧ z = 0) ∨ (l = [45, 48] ∧ z = topW) ∨
    ∃ (neg : Bool) (m : Nat) (e : Int), InR m e ∧ m % 2 = 1 ∧ l = txt neg m e ∧ z = if neg then ldW m e ^^^ topW else ldW m e := by
  unfold parseOf at h
  by_cases h1 : l = [110, 97, 110]
  · rw [if_pos h1] at h; exact .inl ⟨h1, (Prod.mk.inj h).1.symm⟩
  rw [if_neg h1] at h; right
  by_cases h1 : l = [105, 110, 102]
  · rw [if_pos h1] at h; exact .inl ⟨h1, (Prod.mk.inj h).1.symm⟩
  rw [if_neg h1] at h; right
  by_cases h1 : l = [45, 105, 110, 102]
  · rw [if_pos h1] at h; exact .inl ⟨h1, (Prod.mk.inj h).1.symm⟩
  rw [if_neg h1] at h; right
  by_cases h1 : l = [48]
  · rw [if_pos h1] at h; exact .inl ⟨h1, (Prod.mk.inj h).1.symm⟩
  rw [if_neg h1] at h; right
  by_cases h1 : l = [45, 48]
  · rw [if_pos h1] at h; exact .inl ⟨h1, (Prod.mk.inj h).1.symm⟩
  rw [if_neg h1] at h; right
  unfold parseTail at h
  by_cases hp : pAt (unsgn l) < (unsgn l).length
  · rw [if_pos hp] at h
    obtain ⟨m, e, hI, ho, ha, hb, hz⟩ := parseNum_ok h
    refine ⟨negB l, m, e, hI, ho, ?_, hz⟩
    have e1 := negB_unsgn l
    have e2 := pAt_split _ hp
    have e3 := negB_unsgn ((unsgn l).drop (pAt (unsgn l) + 1))
    rw [ha] at e2
    have e4 : (unsgn l).drop (pAt (unsgn l) + 1) = Lib.itoa e := by
      rw [← hb]
      generalize (unsgn l).drop (pAt (unsgn l) + 1) = r at *
      conv => lhs; rw [e3]
      cases negB r <;> rfl
    rw [e4] at e2
    unfold txt
    rw [← e2]; exact e1
  · rw [if_neg hp] at h; cases h
theorem parseNum_err (neg : Bool) (a : List UInt8) (down : Bool) (b : List UInt8) : (parseNum neg a down b).2 = 0 ∨ parseNum neg a down b = (0, 1) ∨ parseNum neg a down b = (0, 4) := by
  unfold parseNum
  split
  · exact .inr (.inr rfl)
  · split
    · exact .inr (.inl rfl)
    · simp only []
      generalize (if down = true then -(decTo b b.length : Int) else (decTo b b.length : Int)) = e
      split
      · exact .inr (.inl rfl)
      · exact .inl rfl
end Go.Proofs.YtalpbphfmelhhaaGreatDoor

/-! ### Parse and Print, there and back, in plain words: the laws. -/
namespace Go.Proofs.YtalpbphfmelhhaaGreatDoor
set_option maxRecDepth 100000
open Go.RowKit Go.Shelf

theorem ldW_lt {m : Nat} {e : Int} (h : InR m e) : (ldW m e).toNat < 9218868437227405312 := by rw [h.ldW_nat]; exact h.ld.2
theorem ldW_pos {m : Nat} {e : Int} (h : InR m e) : 0 < (ldW m e).toNat := by
  rcases Nat.eq_zero_or_pos (ldW m e).toNat with h0 | h0
  · exfalso
    have := u64_ne0 h.mant0
    rw [mantW_nat, h0] at this
    exact this rfl
  · exact h0
/-- The word of a sign and a number. -/
def sgn (neg : Bool) (x : UInt64) : UInt64 := if neg then x ^^^ topW else x
theorem sgn_nat (neg : Bool) {x : UInt64} (h : x.toNat < 9223372036854775808) : (sgn neg x).toNat = if neg then x.toNat + 9223372036854775808 else x.toNat := by
  unfold sgn
  cases neg with
  | true => rw [if_pos rfl, if_pos rfl, xortop_nat, if_neg (by omega)]
  | false => rfl
theorem sgn_fin (neg : Bool) {m : Nat} {e : Int} (h : InR m e) :
    canon (sgn neg (ldW m e)) = sgn neg (ldW m e) ∧ magW (sgn neg (ldW m e)) = ldW m e ∧ decide (canon (sgn neg (ldW m e)) &&& topW ≠ 0) = neg := by
  have hl := ldW_lt h
  have hn := sgn_nat neg (x := ldW m e) (by omega)
  have hc : canon (sgn neg (ldW m e)) = sgn neg (ldW m e) := canon_of (by rw [hn]; cases neg <;> simp <;> omega)
  refine ⟨hc, ?_, ?_⟩
  · rw [u_eq_lit, mag_nat, hc, hn]; cases neg <;> simp <;> omega
  · rw [hc]
    cases neg with
    | true => exact decide_eq_true ((top_ne0 _).2 (by rw [hn]; simp))
    | false => exact decide_eq_false (fun h' => by have := (top_ne0 _).1 h'; rw [hn] at this; simp at this; omega)
theorem class_fin (neg : Bool) {m : Nat} {e : Int} (h : InR m e) :
    classOf (sgn neg (ldW m e)) ≠ 0 ∧ ¬ (classOf (sgn neg (ldW m e)) = 1 ∨ classOf (sgn neg (ldW m e)) = 8) ∧ ¬ (classOf (sgn neg (ldW m e)) = 4 ∨ classOf (sgn neg (ldW m e)) = 5) := by
  have hl := ldW_lt h
  have hp := ldW_pos h
  have hn := sgn_nat neg (x := ldW m e) (by omega)
  rw [class_nat, (sgn_fin neg h).1, hn]
  generalize (ldW m e).toNat = n at *
  unfold clsN
  cases neg with
  | true =>
    rw [if_pos rfl, if_neg (show ¬ 9218868437227405312 < (n + 9223372036854775808) % 9223372036854775808 by omega)]
    simp only []
    rw [if_neg (show ¬ (n + 9223372036854775808) % 9223372036854775808 = 9218868437227405312 by omega), if_pos (show 9223372036854775808 ≤ n + 9223372036854775808 by omega)]
    by_cases h2 : 4503599627370496 ≤ (n + 9223372036854775808) % 9223372036854775808
    · rw [if_pos h2]; decide
    · rw [if_neg h2, if_pos (show 0 < (n + 9223372036854775808) % 9223372036854775808 by omega)]; decide
  | false =>
    rw [if_neg (show ¬ (false = true) by decide), if_neg (show ¬ 9218868437227405312 < n % 9223372036854775808 by omega)]
    simp only []
    rw [if_neg (show ¬ n % 9223372036854775808 = 9218868437227405312 by omega), if_neg (show ¬ 9223372036854775808 ≤ n by omega)]
    by_cases h2 : 4503599627370496 ≤ n % 9223372036854775808
    · rw [if_pos h2]; decide
    · rw [if_neg h2, if_pos (show 0 < n % 9223372036854775808 by omega)]; decide
theorem print_fin (neg : Bool) {m : Nat} {e : Int} (h : InR m e) (ho : m % 2 = 1) : printOf (sgn neg (ldW m e)) = txt neg m e := by
  obtain ⟨h0, h1, h4⟩ := class_fin neg h
  obtain ⟨c1, c2, c3⟩ := sgn_fin neg h
  rw [print_num _ h0 h1 h4, c3, c2, (h.parts ho).1, (h.parts ho).2]
theorem print_w1 : printOf nanW = [110, 97, 110] := by decide +kernel
theorem print_w2 : printOf 9218868437227405312 = [105, 110, 102] := by decide +kernel
theorem print_w3 : printOf 18442240474082181120 = [45, 105, 110, 102] := by decide +kernel
theorem print_w4 : printOf 0 = [48] := by decide +kernel
theorem print_w5 : printOf topW = [45, 48] := by decide +kernel
/-- What is read is printed just so. -/
theorem print_parse {l : List UInt8} {z : UInt64} (h : parseOf l = (z, 0)) : printOf z = l := by
  rcases parse_ok h with ⟨h1, h2⟩ | ⟨h1, h2⟩ | ⟨h1, h2⟩ | ⟨h1, h2⟩ | ⟨h1, h2⟩ | ⟨neg, m, e, hI, ho, h1, h2⟩
  · rw [h1, h2]; exact print_w1
  · rw [h1, h2]; exact print_w2
  · rw [h1, h2]; exact print_w3
  · rw [h1, h2]; exact print_w4
  · rw [h1, h2]; exact print_w5
  · rw [h1, h2]; exact print_fin neg hI ho
theorem canon_print (x : UInt64) : printOf (canon x) = printOf x := by
  unfold printOf signS magW
  rw [class_canon, canon_canon]
theorem canon_cases (x : UInt64) : canon x = nanW ∨ canon x = 9218868437227405312 ∨ canon x = 18442240474082181120 ∨ canon x = 0 ∨ canon x = topW ∨ (classOf x ≠ 0 ∧ ¬ (classOf x = 1 ∨ classOf x = 8) ∧ ¬ (classOf x = 4 ∨ classOf x = 5)) := by
  have hx := (canon x).toNat_lt
  have hc := canon_ok x
  rw [u_eq_lit, u_eq_lit, u_eq_lit, u_eq_lit, u_eq_lit]
  rw [show nanW.toNat = 9221120237041090560 from rfl, show (9218868437227405312 : UInt64).toNat = 9218868437227405312 from rfl, show (18442240474082181120 : UInt64).toNat = 18442240474082181120 from rfl, show (0 : UInt64).toNat = 0 from rfl, show topW.toNat = 9223372036854775808 from rfl]
  rw [class_nat]
  generalize (canon x).toNat = n at *
  by_cases h0 : n = 9221120237041090560
  · exact .inl h0
  right
  by_cases h1 : n % 9223372036854775808 = 9218868437227405312
  · by_cases h2 : n < 9223372036854775808
    · exact .inl (by omega)
    · exact .inr (.inl (by omega))
  right; right
  by_cases h2 : n % 9223372036854775808 = 0
  · by_cases h3 : n < 9223372036854775808
    · exact .inl (by omega)
    · exact .inr (.inl (by omega))
  right; right
  unfold clsN
  rw [if_neg (by omega)]
  simp only []
  rw [if_neg h1]
  by_cases h3 : 4503599627370496 ≤ n % 9223372036854775808
  · rw [if_pos h3]; split <;> decide
  · rw [if_neg h3, if_pos (show 0 < n % 9223372036854775808 by omega)]; split <;> decide
/-- What is printed is read. -/
theorem parse_print (x : UInt64) : parseOf (printOf x) = (canon x, 0) := by
  have hc := canon_print x
  rcases canon_cases x with h | h | h | h | h | ⟨h0, h1, h4⟩
  · rw [← hc, h, print_w1]; decide +kernel
  · rw [← hc, h, print_w2]; decide +kernel
  · rw [← hc, h, print_w3]; decide +kernel
  · rw [← hc, h, print_w4]; decide +kernel
  · rw [← hc, h, print_w5]; decide +kernel
  · have hf := fin_of x h0 h1 h4
    rw [print_num x h0 h1 h4, parse_txt _ _ _ hf.inR (partM_spec _ hf.2).2, hf.back]
    have := mag_sign x
    congr 1
    by_cases hs : canon x &&& topW ≠ 0
    · rw [if_pos hs] at this
      rw [decide_eq_true hs, if_pos rfl, this]
    · rw [if_neg hs] at this
      rw [decide_eq_false hs, if_neg (by decide), this]
/-- A text that is refused is no float's. -/
theorem no_print {l : List UInt8} (h : (parseOf l).2 ≠ 0) (x : UInt64) : printOf x ≠ l := by
  rintro rfl
  rw [parse_print] at h
  exact h rfl
end Go.Proofs.YtalpbphfmelhhaaGreatDoor

/-! ### The reference's way through a text's form, in plain words. -/
namespace Go.Proofs.YtalpbphfmelhhaaGreatDoor
set_option maxRecDepth 100000
open Go.RowKit Go.Shelf

theorem lead_le_of {l : List UInt8} {k : Nat} (hk : k ≤ l.length) (h : ∀ j, j < k → isDig (bAt l j) = true) : k ≤ leadN l := by
  rcases Nat.lt_or_ge (leadN l) k with hlt | hge
  · have h2 := (leadN_spec l).2 (by omega)
    rw [h _ hlt] at h2; cases h2
  · exact hge
theorem leadN_all {l : List UInt8} : leadN l = l.length ↔ l.all isDig = true := by
  rw [all_bAt]
  constructor
  · intro h k hk; exact (leadN_spec l).1 k (by omega)
  · intro h
    have := leadN_le l
    have := lead_le_of (Nat.le_refl _) h
    omega
theorem head_bAt {l : List UInt8} (h : l ≠ []) : l.head? = some 48 ↔ bAt l 0 = 48 := by
  rw [bAt0_head l h]; simp
/-- The digits behind the p. -/
theorem digB_lead (b : List UInt8) : digB b = (leadOk b && decide (leadN b = b.length)) := by
  rw [Bool.eq_iff_iff, digB_iff, Bool.and_eq_true, decide_eq_true_iff]
  unfold leadOk
  rw [Bool.and_eq_true, decide_eq_true_iff, Bool.or_eq_true, Bool.not_eq_true', decide_eq_false_iff_not, decide_eq_true_iff]
  constructor
  · rintro ⟨h1, h2, h3⟩
    have hl := leadN_all.2 h2
    have hp := List.length_pos_iff.2 h1
    refine ⟨⟨by omega, ?_⟩, hl⟩
    by_cases hc : bAt b 0 = 48
    · right; have := h3 ((head_bAt h1).2 hc); omega
    · exact .inl hc
  · rintro ⟨⟨h1, h2⟩, h3⟩
    have hne : b ≠ [] := List.length_pos_iff.1 (by omega)
    refine ⟨hne, leadN_all.1 h3, fun hc => ?_⟩
    rcases h2 with h2 | h2
    · exact absurd ((head_bAt hne).1 hc) h2
    · omega
/-- The form ahead of the p. -/
theorem lead_form {t : List UInt8} (h1 : leadOk t = true) (h2 : bAt t 0 ≠ 48) (h3 : leadN t < t.length) (h4 : bAt t (leadN t) = 112) :
    pAt t = leadN t ∧ digB (t.take (leadN t)) = true ∧ (t.take (leadN t) == [48]) = false := by
  have hs := leadN_spec t
  have hp := pAt_spec t
  have hpos : 0 < leadN t := by unfold leadOk at h1; rw [Bool.and_eq_true] at h1; exact of_decide_eq_true h1.1
  have hpt : pAt t = leadN t := by
    rcases Nat.lt_trichotomy (pAt t) (leadN t) with h | h | h
    · have a := hp.2 (by omega)
      have b := hs.1 _ h
      rw [a, isDig112] at b; cases b
    · exact h
    · exact absurd h4 (hp.1 _ h)
  have hall : (t.take (leadN t)).all isDig = true := by
    rw [all_bAt]
    intro k hk
    rw [List.length_take] at hk
    have := hs.1 k (by omega)
    simpa [bAt, List.getElem?_take, show k < leadN t by omega] using this
  have hne : t.take (leadN t) ≠ [] := List.length_pos_iff.1 (by rw [List.length_take]; omega)
  have hh : bAt (t.take (leadN t)) 0 = bAt t 0 := by simp [bAt, hpos]
  refine ⟨hpt, (digB_iff _).2 ⟨hne, hall, fun hc => ?_⟩, beq_eq_false_iff_ne.2 fun hc => ?_⟩
  · rw [head_bAt hne, hh] at hc; exact absurd hc h2
  · rw [hc] at hh; exact h2 hh.symm
theorem lead_form' {t : List UInt8} (h1 : pAt t < t.length) (h2 : digB (t.take (pAt t)) = true) (h3 : t.take (pAt t) ≠ [48]) :
    leadOk t = true ∧ bAt t 0 ≠ 48 ∧ leadN t < t.length ∧ bAt t (leadN t) = 112 := by
  obtain ⟨g1, g2, g3⟩ := (digB_iff _).1 h2
  have hp := pAt_spec t
  have hpos : 0 < pAt t := by
    rcases Nat.eq_zero_or_pos (pAt t) with h | h
    · rw [h] at g1; exact absurd rfl g1
    · exact h
  have hd : ∀ j, j < pAt t → isDig (bAt t j) = true := by
    intro j hj
    have := (all_bAt _ isDig).1 g2 j (by rw [List.length_take]; omega)
    simpa [bAt, List.getElem?_take, hj] using this
  have hl : leadN t = pAt t := by
    have a := lead_le_of (by omega) hd
    rcases Nat.lt_or_ge (pAt t) (leadN t) with h | h
    · have := (leadN_spec t).1 _ h
      rw [hp.2 h1, isDig112] at this; cases this
    · omega
  have hh : bAt (t.take (pAt t)) 0 = bAt t 0 := by simp [bAt, hpos]
  have h48 : bAt t 0 ≠ 48 := by
    intro hc
    have hlen := g3 ((head_bAt g1).2 (by rw [hh]; exact hc))
    rw [List.length_take] at hlen
    have h1' : pAt t = 1 := by omega
    apply h3
    rw [h1']
    cases t with
    | nil => simp at h1
    | cons c r => simp [bAt] at hc; simp [hc]
  refine ⟨?_, h48, by omega, by rw [hl]; exact hp.2 h1⟩
  unfold leadOk
  rw [decide_eq_true (by omega), decide_eq_false h48]; rfl
/-- A form that is refused, ahead of the p. -/
theorem tail_form (neg : Bool) {t : List UInt8} (h : ¬ (leadOk t = true ∧ bAt t 0 ≠ 48 ∧ leadN t < t.length ∧ bAt t (leadN t) = 112)) : parseTail neg t = (0, 4) := by
  unfold parseTail
  by_cases hp : pAt t < t.length
  · rw [if_pos hp]
    unfold parseNum
    by_cases h2 : digB (t.take (pAt t)) = true
    · by_cases h3 : t.take (pAt t) = [48]
      · rw [h2, h3, if_pos (by simp)]
      · exact absurd (lead_form' hp h2 h3) h
    · rw [if_pos (by simp [h2])]
  · rw [if_neg hp]
/-- A form that stands ahead of the p. -/
theorem tail_num (neg : Bool) {t : List UInt8} (h1 : leadOk t = true) (h2 : bAt t 0 ≠ 48) (h3 : leadN t < t.length) (h4 : bAt t (leadN t) = 112) :
    parseTail neg t = parseNum neg (t.take (leadN t)) (negB (t.drop (leadN t + 1))) (unsgn (t.drop (leadN t + 1))) := by
  obtain ⟨hp, _, _⟩ := lead_form h1 h2 h3 h4
  unfold parseTail
  rw [hp, if_pos h3]
theorem parseNum_not4 {neg : Bool} {a : List UInt8} {down : Bool} {b : List UInt8} (h : (!digB a || (a == [48]) || !digB b || (down && (b == [48]))) = false) : parseNum neg a down b ≠ (0, 4) := by
  unfold parseNum
  rw [h, if_neg (by decide)]
  by_cases h2 : 16 < a.length ∨ 5 < b.length ∨ 9007199254740992 ≤ decTo a a.length ∨ decTo a a.length % 2 = 0
  · rw [if_pos h2]; decide
  · rw [if_neg h2]
    simp only []
    generalize (if down = true then -(decTo b b.length : Int) else (decTo b b.length : Int)) = e
    by_cases h3 : e < -1074 ∨ 1024 < (Lib.bitLen (decTo a a.length) : Int) + e
    · rw [if_pos h3]; decide
    · rw [if_neg h3]
      intro hc
      have := (Prod.mk.inj hc).2
      cases this
theorem itoa_back {down : Bool} {b : List UInt8} {e : Int} (hb : digB b = true) (h : (if down then 45 :: b else b) = Lib.itoa e) : (if down then -((dv b : Nat) : Int) else ((dv b : Nat) : Int)) = e := by
  unfold Lib.itoa at h
  by_cases he : e < 0
  · rw [if_pos he] at h
    cases down with
    | true =>
      rw [if_pos rfl] at h ⊢
      have : b = Lib.decDigits e.natAbs := (List.cons.inj h).2
      rw [this, dv_dd]; omega
    | false =>
      exfalso
      rw [if_neg (by decide)] at h
      apply digB_not45 hb
      rw [h]; rfl
  · rw [if_neg he] at h
    cases down with
    | true =>
      exfalso
      rw [if_pos rfl] at h
      apply bAt0_dd e.toNat
      rw [← h]; rfl
    | false =>
      rw [if_neg (by decide)] at h ⊢
      rw [h, dv_dd]; omega
/-- Any number as a float: a word. -/
theorem conv_any (M : Nat) : ∃ X : UInt64, floatOfInt .f64 (M : Int) = fb X := by
  have h : floatOfInt .f64 (M : Int) < 2 ^ 64 := Ieee.Format.nearest_lt Ieee.double _ _ _
  refine ⟨UInt64.ofNat (floatOfInt .f64 (M : Int)), ?_⟩
  unfold fb
  rw [UInt64.toNat_ofNat', Nat.mod_eq_of_lt h]
end Go.Proofs.YtalpbphfmelhhaaGreatDoor
