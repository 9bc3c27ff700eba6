/-
 Plain laws of whole numbers as groups of seven bits, and of floats as eight bytes. No program in sight.
-/
import Derived.WalkKit
namespace Go.Proofs.YtjjcilinghgphaaGreat
/-- A number in groups of seven bits. -/
def encU (u : Nat) : List UInt8 := if u < 128 then [UInt8.ofNat u] else UInt8.ofNat (u % 128 + 128) :: encU (u / 128)
termination_by u
decreasing_by omega
theorem encU_small {u : Nat} (h : u < 128) : encU u = [UInt8.ofNat u] := by rw [encU, if_pos h]
theorem encU_big {u : Nat} (h : ¬ u < 128) : encU u = UInt8.ofNat (u % 128 + 128) :: encU (u / 128) := by rw [encU, if_neg h]
theorem ofNat8 {n : Nat} (h : n < 256) : (UInt8.ofNat n).toNat = n := by rw [UInt8.toNat_ofNat', Nat.mod_eq_of_lt h]
/-- What groups say. -/
def valU : List UInt8 → Nat
 | [] => 0
 | c :: t => c.toNat % 128 + 128 * valU t
theorem valU_enc (u : Nat) : valU (encU u) = u := by
 induction u using Nat.strongRecOn with
 | ind u ih =>
  by_cases h : u < 128
  · rw [encU_small h]; simp only [valU]; rw [ofNat8 (by omega)]; omega
  · rw [encU_big h]; simp only [valU]; rw [ofNat8 (by omega), ih _ (by omega)]; omega
/-- Groups that are whole: all but the last one go on. -/
def Whole7 (g : List UInt8) : Prop := ∃ h c, g = h ++ [c] ∧ (∀ x ∈ h, 128 ≤ x.toNat) ∧ c.toNat < 128
theorem encU_whole (u : Nat) : Whole7 (encU u) := by
 induction u using Nat.strongRecOn with
 | ind u ih =>
  by_cases h : u < 128
  · rw [encU_small h]; exact ⟨[], _, rfl, by simp, by rw [ofNat8 (by omega)]; exact h⟩
  · obtain ⟨g, c, e, h1, h2⟩ := ih (u / 128) (by omega)
    rw [encU_big h, e]
    refine ⟨_ :: g, c, rfl, ?_, h2⟩
    intro x hx
    rcases List.mem_cons.1 hx with rfl | hx
    · rw [ofNat8 (by omega)]; omega
    · exact h1 x hx
theorem encU_len (k : Nat) : ∀ u, u < 128 ^ (k + 1) → (encU u).length ≤ k + 1 := by
 induction k with
 | zero => intro u h; rw [encU_small (by simpa using h)]; simp
 | succ k ih =>
  intro u h
  by_cases h1 : u < 128
  · rw [encU_small h1]; simp
  · rw [encU_big h1, List.length_cons]
    have := ih (u / 128) (by rw [Nat.div_lt_iff_lt_mul (by decide)]; rw [Nat.pow_succ] at h; exact h)
    omega
theorem encU_len64 (u : Nat) (h : u < 18446744073709551616) : (encU u).length ≤ 10 := encU_len 9 u (by omega)
theorem valU_app (g h : List UInt8) : valU (g ++ h) = valU g + 128 ^ g.length * valU h := by
 induction g with
 | nil => simp [valU]
 | cons c t ih => simp only [List.cons_append, valU, ih, List.length_cons, Nat.pow_succ, Nat.mul_add]; rw [← Nat.mul_assoc, Nat.mul_comm 128 (128 ^ t.length)]; omega
theorem valU_lt (g : List UInt8) : valU g < 128 ^ g.length := by
 induction g with
 | nil => simp [valU]
 | cons c t ih => simp only [valU, List.length_cons, Nat.pow_succ]; omega
/-- Groups without a last one of nought are just what their number is written as. -/
theorem enc_val : ∀ (h : List UInt8) (c : UInt8), (∀ x ∈ h, 128 ≤ x.toNat) → c.toNat < 128 → (h = [] ∨ c.toNat ≠ 0) → encU (valU (h ++ [c])) = h ++ [c]
 | [], c, _, h2, _ => by
  simp only [List.nil_append, valU]
  rw [encU_small (by omega)]
  congr 1
  apply UInt8.toNat_inj.1
  rw [ofNat8 (by omega)]; omega
 | x :: t, c, h1, h2, h3 => by
  have hc : c.toNat ≠ 0 := by rcases h3 with h | h; cases h; exact h
  have ih := enc_val t c (fun y hy => h1 y (List.mem_cons_of_mem _ hy)) h2 (.inr hc)
  have hx := h1 x List.mem_cons_self
  have hx2 := x.toNat_lt
  have hpos : 1 ≤ valU (t ++ [c]) := by
   rw [valU_app]
   have : 1 ≤ valU [c] := by simp only [valU]; omega
   have := Nat.mul_le_mul (Nat.pow_pos (n := t.length) (show 0 < 128 by decide)) this
   omega
  rw [List.cons_append]
  simp only [valU]
  rw [encU_big (by omega), show (x.toNat % 128 + 128 * valU (t ++ [c])) / 128 = valU (t ++ [c]) by omega, ih]
  congr 1
  apply UInt8.toNat_inj.1
  rw [ofNat8 (by omega)]; omega
theorem enc_last (u : Nat) (h : List UInt8) (c : UInt8) (e : encU u = h ++ [c]) (hh : h ≠ []) : c.toNat ≠ 0 := by
 induction u using Nat.strongRecOn generalizing h with
 | ind u ih =>
  by_cases h1 : u < 128
  · rw [encU_small h1] at e
    exfalso
    have := congrArg List.length e
    simp at this
    exact hh this
  · rw [encU_big h1] at e
    cases h with
    | nil => exact absurd rfl hh
    | cons x t =>
     rw [List.cons_append, List.cons.injEq] at e
     by_cases ht : t = []
     · subst ht
       have e2 := e.2
       by_cases h2 : u / 128 < 128
       · rw [encU_small h2] at e2
         simp only [List.nil_append, List.cons.injEq, and_true] at e2
         rw [← e2, ofNat8 (by omega)]; omega
       · rw [encU_big h2] at e2
         have := congrArg List.length e2
         simp only [List.nil_append, List.length_cons, List.length_nil] at this
         have hw := encU_whole (u / 128 / 128)
         obtain ⟨g, d, eg, _⟩ := hw
         rw [eg] at this; simp at this
     · exact ih (u / 128) (by omega) t e.2 ht

/-! ### Whole numbers of both signs -/
def zz (n : Int) : Nat := if n < 0 then (-2 * n - 1).toNat else (2 * n).toNat
def unzz (u : Nat) : Int := if u % 2 = 1 then -((u / 2 : Nat) : Int) - 1 else ((u / 2 : Nat) : Int)
theorem unzz_zz (n : Int) : unzz (zz n) = n := by unfold unzz zz; split <;> split <;> omega
theorem zz_unzz (u : Nat) : zz (unzz u) = u := by unfold unzz zz; split <;> split <;> omega
theorem zz_lt {n : Int} (h0 : -9223372036854775808 ≤ n) (h1 : n ≤ 9223372036854775807) : zz n < 18446744073709551616 := by unfold zz; split <;> omega
theorem unzz_bd {u : Nat} (h : u < 18446744073709551616) : -9223372036854775808 ≤ unzz u ∧ unzz u ≤ 9223372036854775807 := by unfold unzz; split <;> omega
/-- A whole number as bytes. -/
def intB (n : Int) : List UInt8 := encU (zz n)

/-! ### Reading a whole number -/
/-- The place of the first byte that does not go on. -/
def endOf : List UInt8 → Nat
 | [] => 0
 | c :: t => if c.toNat < 128 then 0 else endOf t + 1
theorem endOf_le (m : List UInt8) : endOf m ≤ m.length := by
 induction m with
 | nil => simp [endOf]
 | cons c t ih => unfold endOf; split <;> simp <;> omega
/-- The groups that are read. -/
def grp (m : List UInt8) : List UInt8 := m.take (endOf m + 1)
/-- What the reading of a whole number finds: 5: too short; 4: of no form; 0: a number. -/
def rdE (m : List UInt8) : Int := if endOf m = m.length then 5 else if encU (valU (grp m) % 18446744073709551616) = grp m then 0 else 4
def rdN (m : List UInt8) : Int := if rdE m = 0 then unzz (valU (grp m)) else 0
theorem rdE_cases (m : List UInt8) : rdE m = 0 ∨ rdE m = 4 ∨ rdE m = 5 := by unfold rdE; split <;> (try split) <;> simp
theorem endOf_spec : ∀ (m : List UInt8), endOf m < m.length → ∃ h c, grp m = h ++ [c] ∧ h.length = endOf m ∧ (∀ x ∈ h, 128 ≤ x.toNat) ∧ c.toNat < 128 ∧ m.getD (endOf m) 0 = c ∧ h = m.take (endOf m)
 | [], h => by simp [endOf] at h
 | c :: t, h => by
  by_cases h1 : c.toNat < 128
  · refine ⟨[], c, ?_, ?_, by simp, h1, ?_, ?_⟩ <;> simp [grp, endOf, h1]
  · have h' : endOf t < t.length := by rw [endOf, if_neg h1] at h; simpa using h
    obtain ⟨g, d, e1, e2, e3, e4, e5, e6⟩ := endOf_spec t h'
    have he : endOf (c :: t) = endOf t + 1 := by rw [endOf, if_neg h1]
    refine ⟨c :: g, d, ?_, ?_, ?_, e4, ?_, ?_⟩
    · unfold grp at *; rw [he, List.take_succ_cons, e1]; rfl
    · rw [he]; simp [e2]
    · intro x hx
      rcases List.mem_cons.1 hx with rfl | hx
      · omega
      · exact e3 x hx
    · rw [he]; simpa using e5
    · rw [he, List.take_succ_cons, e6]
theorem endOf_ge : ∀ (m : List UInt8) (j : Nat), j < endOf m → 128 ≤ (m.getD j 0).toNat
 | [], j, h => by simp [endOf] at h
 | c :: t, j, h => by
  by_cases h1 : c.toNat < 128
  · rw [endOf, if_pos h1] at h; omega
  · rw [endOf, if_neg h1] at h
    cases j with
    | zero => simp; omega
    | succ j => simpa using endOf_ge t j (by omega)
/-- The place is told by what stands ahead of it. -/
theorem endOf_at (m : List UInt8) (k : Nat) (h : ∀ j, j < k → 128 ≤ (m.getD j 0).toNat) (hk : k ≤ m.length) : (k < m.length → (m.getD k 0).toNat < 128 → endOf m = k) ∧ k ≤ endOf m := by
 induction m generalizing k with
 | nil => simp at hk; subst hk; simp
 | cons c t ih =>
  cases k with
  | zero => refine ⟨fun _ h2 => ?_, Nat.zero_le _⟩; rw [endOf, if_pos (by simpa using h2)]
  | succ k =>
   have h0 := h 0 (by omega)
   have h0' : ¬ c.toNat < 128 := by simpa using h0
   have := ih k (fun j hj => by simpa using h (j + 1) (by omega)) (by simpa using hk)
   rw [endOf, if_neg h0']
   refine ⟨fun h1 h2 => ?_, by omega⟩
   rw [this.1 (by simpa using h1) (by simpa using h2)]
theorem grp_enc (u : Nat) (r : List UInt8) : endOf (encU u ++ r) + 1 = (encU u).length ∧ grp (encU u ++ r) = encU u := by
 have hall : ∀ (h : List UInt8) (c : UInt8), (∀ x ∈ h, 128 ≤ x.toNat) → c.toNat < 128 → endOf (h ++ [c] ++ r) = h.length := by
  intro h c h1 h2
  induction h with
  | nil => simp [endOf, h2]
  | cons x t ih =>
   have hx := h1 x List.mem_cons_self
   simp only [List.cons_append, List.length_cons]
   rw [endOf, if_neg (by omega)]
   simp only [List.append_assoc] at ih ⊢
   rw [ih (fun y hy => h1 y (List.mem_cons_of_mem _ hy))]
 obtain ⟨h, c, e, h1, h2⟩ := encU_whole u
 have he := hall h c h1 h2
 rw [e]
 refine ⟨by rw [he]; simp, ?_⟩
 unfold grp
 rw [he, List.take_append_of_le_length (by simp), List.take_of_length_le (by simp)]
/-- A number that was written is read. -/
theorem rd_intB (n : Int) (h0 : -9223372036854775808 ≤ n) (h1 : n ≤ 9223372036854775807) (r : List UInt8) : rdE (intB n ++ r) = 0 ∧ rdN (intB n ++ r) = n ∧ endOf (intB n ++ r) + 1 = (intB n).length := by
 obtain ⟨e1, e2⟩ := grp_enc (zz n) r
 have hz := zz_lt h0 h1
 have hE : rdE (intB n ++ r) = 0 := by
  unfold rdE intB
  rw [e2, valU_enc, Nat.mod_eq_of_lt hz, if_pos rfl, if_neg]
  rw [List.length_append]
  omega
 refine ⟨hE, ?_, e1⟩
 unfold rdN
 rw [if_pos hE]
 unfold intB
 rw [e2, valU_enc, unzz_zz]
end Go.Proofs.YtjjcilinghgphaaGreat
