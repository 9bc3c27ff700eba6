/-
 Plain laws: the names of a log's segments (chapter 7) and their numbers. No program in sight.
-/
import Derived.Test.YtjjcilinghgphaaGreatE1
namespace Go.Proofs.YtjjcilinghgphaaGreat
set_option maxRecDepth 100000
open Go.RowKit

/-- The digit of a number at ten to the k. -/
def dg (n k : Nat) : UInt8 := UInt8.ofNat (48 + n / 10 ^ k % 10)
def dig8 (n : Nat) : List UInt8 := [dg n 7, dg n 6, dg n 5, dg n 4, dg n 3, dg n 2, dg n 1, dg n 0]
/-- A segment's name. -/
def segN (dir : List UInt8) (n : Nat) : List UInt8 := dir ++ 46 :: dig8 n
def isD (c : UInt8) : Bool := decide (48 ≤ c.toNat) && decide (c.toNat ≤ 57)
def valA (a : Nat) : List UInt8 → Nat
 | [] => a
 | c :: r => valA (a * 10 + (c.toNat - 48)) r
/-- The number of a segment's name; 0: it is none. -/
def numS (dir nm : List UInt8) : Nat :=
 if nm.length = dir.length + 9 ∧ nm.take dir.length = dir ∧ nm.getD dir.length 0 = 46 ∧ (nm.drop (dir.length + 1)).all isD = true then valA 0 (nm.drop (dir.length + 1)) else 0
theorem dg_nat (n k : Nat) : (dg n k).toNat = 48 + n / 10 ^ k % 10 := by
 unfold dg
 rw [UInt8.toNat_ofNat']
 omega
theorem isD_iff (c : UInt8) : isD c = true ↔ 48 ≤ c.toNat ∧ c.toNat ≤ 57 := by unfold isD; simp
theorem dg_isD (n k : Nat) : isD (dg n k) = true := by rw [isD_iff, dg_nat]; omega
theorem dig8_length (n : Nat) : (dig8 n).length = 8 := rfl
theorem segN_length (dir : List UInt8) (n : Nat) : (segN dir n).length = dir.length + 9 := by unfold segN; simp [dig8_length]
theorem dig8_all (n : Nat) : (dig8 n).all isD = true := by
 unfold dig8
 simp [dg_isD]
theorem valA_dig8 (n : Nat) (h : n ≤ 99999999) : valA 0 (dig8 n) = n := by
 have e : ∀ k, (dg n k).toNat - 48 = n / 10 ^ k % 10 := fun k => by rw [dg_nat]; omega
 show ((((((((0 * 10 + ((dg n 7).toNat - 48)) * 10 + ((dg n 6).toNat - 48)) * 10 + ((dg n 5).toNat - 48)) * 10 + ((dg n 4).toNat - 48)) * 10 + ((dg n 3).toNat - 48)) * 10 + ((dg n 2).toNat - 48)) * 10 + ((dg n 1).toNat - 48)) * 10 + ((dg n 0).toNat - 48)) = n
 rw [e, e, e, e, e, e, e, e]
 clear e
 have a1 : n / 10 ^ 0 = n := by simp
 have a2 : n / 10 ^ 1 = n / 10 := by simp
 have a3 : n / 10 ^ 2 = n / 10 / 10 := by rw [Nat.div_div_eq_div_mul]
 have a4 : n / 10 ^ 3 = n / 10 / 10 / 10 := by simp only [Nat.div_div_eq_div_mul]
 have a5 : n / 10 ^ 4 = n / 10 / 10 / 10 / 10 := by simp only [Nat.div_div_eq_div_mul]
 have a6 : n / 10 ^ 5 = n / 10 / 10 / 10 / 10 / 10 := by simp only [Nat.div_div_eq_div_mul]
 have a7 : n / 10 ^ 6 = n / 10 / 10 / 10 / 10 / 10 / 10 := by simp only [Nat.div_div_eq_div_mul]
 have a8 : n / 10 ^ 7 = n / 10 / 10 / 10 / 10 / 10 / 10 / 10 := by simp only [Nat.div_div_eq_div_mul]
 rw [a1, a2, a3, a4, a5, a6, a7, a8]
 clear a1 a2 a3 a4 a5 a6 a7 a8
 omega
theorem drop_pre {α : Type} (l : List α) (x : α) (m : List α) : (l ++ x :: m).drop (l.length + 1) = m := by
 rw [List.drop_append]; simp
theorem numS_segN (dir : List UInt8) (n : Nat) (h : n ≤ 99999999) : numS dir (segN dir n) = n := by
 unfold numS
 rw [if_pos ⟨segN_length dir n, by unfold segN; simp, by unfold segN; simp [List.getD], by unfold segN; rw [drop_pre]; exact dig8_all n⟩]
 unfold segN
 rw [drop_pre]
 exact valA_dig8 n h
theorem dg_step {q r k : Nat} (h : r ≤ 9) : dg (q * 10 + r) (k + 1) = dg q k := by
 apply UInt8.toNat_inj.1
 rw [dg_nat, dg_nat, Nat.pow_succ, Nat.mul_comm (10 ^ k), ← Nat.div_div_eq_div_mul, show (q * 10 + r) / 10 = q by omega]
theorem dg_zero {q : Nat} {x : UInt8} (h : 48 ≤ x.toNat ∧ x.toNat ≤ 57) : dg (q * 10 + (x.toNat - 48)) 0 = x := by
 apply UInt8.toNat_inj.1
 rw [dg_nat, Nat.pow_zero, Nat.div_one]
 omega
theorem dig8_step {q : Nat} {x : UInt8} (h : 48 ≤ x.toNat ∧ x.toNat ≤ 57) : dig8 (q * 10 + (x.toNat - 48)) = (dig8 q).tail ++ [x] := by
 have hr : x.toNat - 48 ≤ 9 := by omega
 have h0 := dg_zero (q := q) h
 generalize x.toNat - 48 = r at *
 show [dg (q * 10 + r) 7, dg (q * 10 + r) 6, dg (q * 10 + r) 5, dg (q * 10 + r) 4, dg (q * 10 + r) 3, dg (q * 10 + r) 2, dg (q * 10 + r) 1, dg (q * 10 + r) 0] = [dg q 6, dg q 5, dg q 4, dg q 3, dg q 2, dg q 1, dg q 0, x]
 rw [h0, dg_step (k := 6) hr, dg_step (k := 5) hr, dg_step (k := 4) hr, dg_step (k := 3) hr, dg_step (k := 2) hr, dg_step (k := 1) hr, dg_step (k := 0) hr]
theorem valA_bd : ∀ (l : List UInt8) (q : Nat), l.all isD = true → valA q l + 1 ≤ (q + 1) * 10 ^ l.length
 | [], q, _ => by show q + 1 ≤ (q + 1) * 1; omega
 | x :: l, q, h => by
  rw [List.all_cons, Bool.and_eq_true, isD_iff] at h
  have ih := valA_bd l (q * 10 + (x.toNat - 48)) h.2
  refine Nat.le_trans ih ?_
  rw [List.length_cons, Nat.pow_succ, Nat.mul_comm (10 ^ l.length) 10, ← Nat.mul_assoc]
  refine Nat.mul_le_mul_right _ ?_
  have h1 := h.1.2
  omega
theorem dig8_val : ∀ (l : List UInt8) (q : Nat), l.all isD = true → dig8 (valA q l) = (dig8 q ++ l).drop l.length
 | [], q, _ => by show dig8 q = (dig8 q ++ []).drop 0; simp
 | x :: l, q, h => by
  rw [List.all_cons, Bool.and_eq_true, isD_iff] at h
  show dig8 (valA (q * 10 + (x.toNat - 48)) l) = _
  rw [dig8_val l _ h.2, dig8_step h.1]
  simp [dig8]
theorem dig8_valA {l : List UInt8} (hl : l.length = 8) (h : l.all isD = true) : dig8 (valA 0 l) = l ∧ valA 0 l ≤ 99999999 := by
 have h1 := dig8_val l 0 h
 have h2 := valA_bd l 0 h
 rw [hl] at h1 h2
 refine ⟨by rw [h1]; rfl, ?_⟩
 generalize valA 0 l = N at h2
 have h3 : (0 + 1) * 10 ^ 8 = 100000000 := by decide
 rw [h3] at h2
 exact Nat.le_of_succ_le_succ h2
theorem numS_pos {dir nm : List UInt8} (h : 0 < numS dir nm) : nm = segN dir (numS dir nm) ∧ numS dir nm ≤ 99999999 := by
 unfold numS at h ⊢
 split at h
 · rename_i hc
   rw [if_pos hc]
   obtain ⟨h1, h2, h3, h4⟩ := hc
   have hl : (nm.drop (dir.length + 1)).length = 8 := by rw [List.length_drop]; omega
   obtain ⟨h5, h6⟩ := dig8_valA hl h4
   refine ⟨?_, h6⟩
   unfold segN
   rw [h5]
   have hlt : dir.length < nm.length := by omega
   have e : nm = nm.take dir.length ++ nm[dir.length] :: nm.drop (dir.length + 1) := by
    rw [← List.drop_eq_getElem_cons hlt, List.take_append_drop]
   have h3' : nm[dir.length] = 46 := by rw [List.getD_eq_getElem?_getD, List.getElem?_eq_getElem hlt] at h3; simpa using h3
   rw [h2, h3'] at e
   exact e
 · exact absurd h (by omega)
theorem numS_le (dir nm : List UInt8) : numS dir nm ≤ 99999999 := by
 rcases Nat.eq_zero_or_pos (numS dir nm) with h | h
 · omega
 · exact (numS_pos h).2
theorem numS_short {dir nm : List UInt8} (h : nm.length < 9) : numS dir nm = 0 := by
 unfold numS
 rw [if_neg]
 rintro ⟨h1, _⟩
 omega
theorem segN_inj {dir : List UInt8} {a b : Nat} (ha : a ≤ 99999999) (hb : b ≤ 99999999) (h : segN dir a = segN dir b) : a = b := by
 rw [← numS_segN dir a ha, h, numS_segN dir b hb]
theorem valA_lt {a b : Nat} (hab : a < b) : ∀ {l m : List UInt8}, l.length = m.length → l.all isD = true → m.all isD = true → valA a l < valA b m := by
 intro l
 induction l generalizing a b with
 | nil => intro m hl _ _; match m, hl with | [], _ => exact hab
 | cons x r ih =>
  intro m hl h1 h2
  match m, hl with
  | y :: s, hl =>
   rw [List.all_cons, Bool.and_eq_true, isD_iff] at h1 h2
   exact ih (a := a * 10 + (x.toNat - 48)) (b := b * 10 + (y.toNat - 48)) (by omega) (by simpa using hl) h1.2 h2.2
theorem lt_of_valA {a : Nat} : ∀ {l m : List UInt8}, l.length = m.length → l.all isD = true → m.all isD = true → valA a l < valA a m → bB l m = true := by
 intro l
 induction l generalizing a with
 | nil => intro m hl _ _ h; match m, hl with | [], _ => exact absurd h (Nat.lt_irrefl _)
 | cons x r ih =>
  intro m hl h1 h2 h
  match m, hl with
  | y :: s, hl =>
   rw [List.all_cons, Bool.and_eq_true, isD_iff] at h1 h2
   have hl' : r.length = s.length := by simpa using hl
   rw [bB_lt, decide_eq_true_iff, List.cons_lt_cons_iff]
   rcases Nat.lt_trichotomy x.toNat y.toNat with h3 | h3 | h3
   · exact .inl (UInt8.lt_iff_toNat_lt.2 h3)
   · have e : x = y := UInt8.toNat_inj.1 h3
     subst e
     refine .inr ⟨rfl, ?_⟩
     have := ih (a := a * 10 + (x.toNat - 48)) hl' h1.2 h2.2 h
     rwa [bB_lt, decide_eq_true_iff] at this
   · have : valA (a * 10 + (y.toNat - 48)) s < valA (a * 10 + (x.toNat - 48)) r := valA_lt (by omega) hl'.symm h2.2 h1.2
     exact absurd this (Nat.lt_asymm h)
theorem bB_pre (x : List UInt8) (a b : List UInt8) : bB (x ++ a) (x ++ b) = bB a b := by
 induction x with
 | nil => rfl
 | cons c r ih =>
  rw [bB_lt] at ih ⊢
  rw [bB_lt] at ih
  rw [List.cons_append, List.cons_append, Bool.eq_iff_iff] at *
  simp [List.cons_lt_cons_iff, bB_lt] at ih ⊢
  exact ih
theorem segN_lt {dir : List UInt8} {a b : Nat} (hab : a < b) (hb : b ≤ 99999999) : bB (segN dir a) (segN dir b) = true := by
 unfold segN
 rw [bB_pre, bB_lt, decide_eq_true_iff, List.cons_lt_cons_iff]
 refine .inr ⟨rfl, ?_⟩
 have h := lt_of_valA (a := 0) (l := dig8 a) (m := dig8 b) rfl (dig8_all a) (dig8_all b) (by rw [valA_dig8 a (by omega), valA_dig8 b hb]; exact hab)
 rwa [bB_lt, decide_eq_true_iff] at h
theorem segN_len_ne {dir nm : List UInt8} {n : Nat} (h : nm.length < 9) : segN dir n ≠ nm := fun e => by have := segN_length dir n; rw [e] at this; omega
end Go.Proofs.YtjjcilinghgphaaGreat
