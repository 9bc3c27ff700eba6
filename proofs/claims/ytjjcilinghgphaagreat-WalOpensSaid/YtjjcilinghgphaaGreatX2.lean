/-
 Plain laws: the readings and writings of whole numbers and of floats, step by step, on Go's own unsigned types. No program in sight.
-/
import Derived.Test.YtjjcilinghgphaaGreatX1
import Derived.Test.YtjjcilinghgphaaGreatTy
namespace Go.Proofs.YtjjcilinghgphaaGreat
theorem or_low (v k a : Nat) (h : a < 2 ^ k) : 2 ^ k * v ||| a = 2 ^ k * v + a := (Nat.two_pow_add_eq_or_of_lt h v).symm
theorem and127 (c : UInt8) : (c &&& 127).toNat = c.toNat % 128 := by
 rw [UInt8.toNat_and, show (127 : UInt8).toNat = 2 ^ 7 - 1 from rfl, Nat.and_two_pow_sub_one_eq_mod]
theorem take_snoc (m : List UInt8) (k : Nat) (h : k < m.length) : m.take (k + 1) = m.take k ++ [m.getD k 0] := by
 rw [List.take_succ_eq_append_getElem h]; simp [List.getD, h]
/-- The reading, group by group: the number so far; has it grown too great? -/
def stU (m : List UInt8) : Nat → UInt64 × Bool
 | 0 => (0, false)
 | k + 1 =>
  if (stU m k).2 || (decide (9 < k) || (decide (k = 9) && decide (1 < (m.getD k 0).toNat % 128))) then ((stU m k).1, true)
  else ((stU m k).1 ||| ((m.getD k 0 &&& 127).toUInt64 <<< UInt64.ofNat (7 * k)), false)
theorem stU_over {m : List UInt8} : ∀ {k : Nat}, (stU m k).2 = true → 10 < k ∨ (k = 10 ∧ 1 < (m.getD 9 0).toNat % 128)
 | 0, h => by simp [stU] at h
 | k + 1, h => by
  unfold stU at h
  split at h
  · rename_i h1
    simp only [Bool.or_eq_true, Bool.and_eq_true, decide_eq_true_eq] at h1
    rcases h1 with h1 | h1 | h1
    · rcases stU_over h1 with h2 | h2 <;> omega
    · omega
    · obtain ⟨rfl, h2⟩ := h1; exact .inr ⟨rfl, h2⟩
  · cases h
theorem stU_val {m : List UInt8} : ∀ {k : Nat}, k ≤ m.length → (stU m k).2 = false → (stU m k).1.toNat = valU (m.take k) ∧ valU (m.take k) < 18446744073709551616
 | 0, _, _ => by simp [stU, valU]
 | k + 1, hk, h => by
  unfold stU at h ⊢
  split at h
  · cases h
  · rename_i h1
    rw [if_neg h1]
    simp only [Bool.or_eq_true, Bool.and_eq_true, decide_eq_true_eq, not_or, not_and, Bool.not_eq_true] at h1
    obtain ⟨h2, h3, h4⟩ := h1
    obtain ⟨i1, i2⟩ := stU_val (m := m) (k := k) (by omega) h2
    have hv := valU_lt (m.take k)
    rw [List.length_take, Nat.min_eq_left (by omega)] at hv
    rw [take_snoc m k (by omega), valU_app, List.length_take, Nat.min_eq_left (by omega)]
    simp only [valU, Nat.mul_zero, Nat.add_zero]
    generalize m.getD k 0 = c at *
    have e7 : (128 : Nat) ^ k = 2 ^ (7 * k) := by rw [show (128 : Nat) = 2 ^ 7 from rfl, ← Nat.pow_mul]
    rw [e7] at hv ⊢
    have hc : c.toNat % 128 ≤ 127 := by omega
    have hprod : 2 ^ (7 * k) * (c.toNat % 128) + valU (m.take k) < 18446744073709551616 := by
     have h5 : k = 0 ∨ k = 1 ∨ k = 2 ∨ k = 3 ∨ k = 4 ∨ k = 5 ∨ k = 6 ∨ k = 7 ∨ k = 8 ∨ k = 9 := by omega
     rcases h5 with rfl | rfl | rfl | rfl | rfl | rfl | rfl | rfl | rfl | rfl <;> simp only [Nat.reduceMul, Nat.reducePow] at hv ⊢ <;> (first | omega | (have := h4 rfl; omega))
    have hsh : ((c &&& 127).toUInt64 <<< UInt64.ofNat (7 * k)).toNat = 2 ^ (7 * k) * (c.toNat % 128) := by
     rw [UInt64.toNat_shiftLeft, UInt8.toNat_toUInt64, and127, UInt64.toNat_ofNat', Nat.mod_eq_of_lt (show 7 * k < 2 ^ 64 by omega), Nat.mod_eq_of_lt (show 7 * k < 64 by omega), Nat.shiftLeft_eq, Nat.mul_comm]
     exact Nat.mod_eq_of_lt (by omega)
    rw [UInt64.toNat_or, hsh, i1, Nat.or_comm, or_low _ _ _ hv]
    exact ⟨by omega, by omega⟩
/-- What the program finds at the last group. -/
theorem rdE_last {m : List UInt8} (h : endOf m < m.length) : rdE m = (if (stU m (endOf m + 1)).2 || (decide ((m.getD (endOf m) 0).toNat = 0) && decide (0 < endOf m)) then 4 else 0) ∧
 ((stU m (endOf m + 1)).2 = false → (stU m (endOf m + 1)).1.toNat = valU (grp m)) := by
 obtain ⟨g, c, e1, e2, e3, e4, e5, e6⟩ := endOf_spec m h
 refine ⟨?_, fun hf => (stU_val (by omega) hf).1⟩
 have hne : ¬ endOf m = m.length := by omega
 unfold rdE
 rw [if_neg hne]
 cases ho : (stU m (endOf m + 1)).2 with
 | true =>
  rw [Bool.true_or, if_pos rfl, if_neg]
  intro hc
  have hl := encU_len64 (valU (grp m) % 18446744073709551616) (by omega)
  rw [hc] at hl
  have hg : (grp m).length = endOf m + 1 := by rw [e1]; simp [e2]
  rcases stU_over ho with h1 | ⟨h1, h2⟩
  · omega
  · have hv := congrArg valU hc
    rw [valU_enc] at hv
    have e9 : endOf m = 9 := by omega
    rw [e1, valU_app, e2, e9] at hv
    rw [e9] at e5
    rw [e5] at h2
    simp only [valU, Nat.reducePow] at hv
    omega
 | false =>
  rw [Bool.false_or]
  obtain ⟨v1, v2⟩ := stU_val (m := m) (k := endOf m + 1) (by omega) ho
  change _ = valU (grp m) at v1
  change valU (grp m) < _ at v2
  rw [Nat.mod_eq_of_lt v2, e5]
  cases hz : (decide (c.toNat = 0) && decide (0 < endOf m)) with
  | true =>
   simp only [Bool.and_eq_true, decide_eq_true_eq] at hz
   rw [if_pos rfl, if_neg]
   intro hc
   rw [e1] at hc
   exact enc_last _ g c hc (by intro h0; rw [h0] at e2; simp at e2; omega) hz.1
  | false =>
   have hE : encU (valU (grp m)) = grp m := by
    rw [e1]
    refine enc_val g c e3 e4 ?_
    simp only [Bool.and_eq_false_iff, decide_eq_false_iff_not] at hz
    rcases hz with hz | hz
    · exact .inr hz
    · left; exact List.eq_nil_of_length_eq_zero (by omega)
   rw [if_pos hE]; rfl
/-- The reference's reading, from behind. -/
def rU : List UInt8 → UInt64
 | [] => 0
 | c :: t => (rU t <<< 7) ||| (c &&& 127).toUInt64
theorem rU_val : ∀ g : List UInt8, (rU g).toNat = valU g % 18446744073709551616
 | [] => rfl
 | c :: t => by
  have ih := rU_val t
  unfold rU valU
  have hsh : (rU t <<< 7).toNat = 2 ^ 7 * ((rU t).toNat % 144115188075855872) := by
   rw [UInt64.toNat_shiftLeft, show (7 : UInt64).toNat % 64 = 7 from rfl, Nat.shiftLeft_eq]
   omega
  rw [UInt64.toNat_or, hsh, UInt8.toNat_toUInt64, and127, or_low _ _ _ (by omega), ih]
  omega
/-- What was read as groups, as a number. -/
theorem zz_of_u (u : UInt64) : (encU u.toNat) = intB (unzz u.toNat) := by unfold intB; rw [zz_unzz]
theorem ref_ok {m : List UInt8} (h : endOf m < m.length) (h10 : endOf m < 10) : (rdE m = 0 ↔ intB (unzz (rU (grp m)).toNat) = grp m) ∧ (rdE m = 0 → unzz (rU (grp m)).toNat = rdN m) := by
 have hne : ¬ endOf m = m.length := by omega
 rw [← zz_of_u, rU_val]
 unfold rdE rdN
 rw [if_neg hne]
 constructor
 · constructor
   · intro h1; split at h1
     · assumption
     · cases h1
   · intro h1; rw [if_pos h1]
 · intro h1
   unfold rdE
   rw [if_neg hne, if_pos h1]
   split at h1
   · rename_i h2
     have hv := congrArg valU h2
     rw [valU_enc] at hv
     rw [hv]
   · cases h1
theorem ref_long {m : List UInt8} (h : endOf m < m.length) (h10 : 10 ≤ endOf m) : rdE m = 4 ∧ intB 0 ≠ grp m := by
 obtain ⟨g, c, e1, e2, _⟩ := endOf_spec m h
 have hg : (grp m).length = endOf m + 1 := by rw [e1]; simp [e2]
 constructor
 · unfold rdE
   rw [if_neg (by omega), if_neg]
   intro hc
   have hl := encU_len64 (valU (grp m) % 18446744073709551616) (by omega)
   rw [hc] at hl; omega
 · intro hc
   have := congrArg List.length hc
   rw [hg, show intB 0 = [0] from by unfold intB; rw [encU_small (by decide)]; rfl] at this
   simp at this; omega

/-! ### Eight bytes -/
def le8 : Nat → UInt64 → List UInt8
 | 0, _ => []
 | k + 1, u => u.toUInt8 :: le8 k (u >>> 8)
theorem le8_len : ∀ k u, (le8 k u).length = k
 | 0, _ => rfl
 | k + 1, u => by simp [le8, le8_len k]
def r8 : List UInt8 → UInt64
 | [] => 0
 | c :: t => (r8 t <<< 8) ||| c.toUInt64
theorem r8_le8 : ∀ (k : Nat) (u : UInt64), k ≤ 8 → (r8 (le8 k u)).toNat = u.toNat % 2 ^ (8 * k)
 | 0, u, _ => by simp [le8, r8, Nat.mod_one]
 | k + 1, u, hk => by
  have ih := r8_le8 k (u >>> 8) (by omega)
  unfold le8 r8
  have hu : (u >>> 8).toNat = u.toNat / 256 := by rw [UInt64.toNat_shiftRight, show (8 : UInt64).toNat % 64 = 8 from rfl, Nat.shiftRight_eq_div_pow]
  have hul := u.toNat_lt
  have hsh : (r8 (le8 k (u >>> 8)) <<< 8).toNat = 2 ^ 8 * ((r8 (le8 k (u >>> 8))).toNat % 72057594037927936) := by
   rw [UInt64.toNat_shiftLeft, show (8 : UInt64).toNat % 64 = 8 from rfl, Nat.shiftLeft_eq]
   omega
  rw [UInt64.toNat_or, hsh, UInt8.toNat_toUInt64, UInt64.toNat_toUInt8, or_low _ _ _ (by omega), ih, hu]
  have h5 : k = 0 ∨ k = 1 ∨ k = 2 ∨ k = 3 ∨ k = 4 ∨ k = 5 ∨ k = 6 ∨ k = 7 := by omega
  rcases h5 with rfl | rfl | rfl | rfl | rfl | rfl | rfl | rfl <;> simp only [Nat.reduceMul, Nat.reducePow, Nat.reduceAdd] <;> omega
theorem r8_back (u : UInt64) : r8 (le8 8 u) = u := by
 apply UInt64.toNat_inj.1
 rw [r8_le8 8 u (by omega)]
 exact Nat.mod_eq_of_lt u.toNat_lt
end Go.Proofs.YtjjcilinghgphaaGreat
