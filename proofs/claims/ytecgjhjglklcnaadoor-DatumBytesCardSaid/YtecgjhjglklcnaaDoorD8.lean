/-
  Plain laws of quoted texts: a text is quoted in one way.
-/
import Derived.Test.YtecgjhjglklcnaaDoorD7
namespace Go.Proofs.YtecgjhjglklcnaaDoor
open Go.RowKit Go.Shelf Go.Sort
theorem plain92 : plainZ 92 = false := by decide
theorem plain34 : plainZ 34 = false := by decide
theorem hexC_nat (k : Nat) (h : k < 16) : (hexC k).toNat = if k < 10 then 48 + k else 87 + k := by
  unfold hexC
  rw [UInt8.toNat_ofNat']
  split <;> omega
theorem hexZ_hexC (k : Nat) (h : k < 16) : hexZ ((hexC k).toNat : Int) = k := by
  rw [hexC_nat k h]
  unfold hexZ
  split <;> split <;> (try split) <;> omega
theorem hexC_inj {j k : Nat} (hj : j < 16) (hk : k < 16) (h : hexC j = hexC k) : j = k := by
  have h1 := hexZ_hexC j hj
  have h2 := hexZ_hexC k hk
  rw [h] at h1; omega
/-- The first quoted byte, and what is behind it, are one. -/
theorem quoteC_inj {c d : UInt8} {x y : List UInt8} (h : quoteC c ++ x = quoteC d ++ y) : c = d ∧ x = y := by
  have hc := c.toNat_lt
  have hd := d.toNat_lt
  unfold quoteC at h
  cases hpc : plainZ (c.toNat : Int) with
  | true =>
    rw [hpc, if_pos rfl] at h
    cases hpd : plainZ (d.toNat : Int) with
    | true =>
      rw [hpd, if_pos rfl] at h
      exact List.cons.inj h
    | false =>
      rw [hpd, if_neg (by decide)] at h
      have := (List.cons.inj h).1
      subst this
      rw [show ((92 : UInt8).toNat : Int) = 92 from rfl, plain92] at hpc; cases hpc
  | false =>
    rw [hpc, if_neg (by decide)] at h
    cases hpd : plainZ (d.toNat : Int) with
    | true =>
      rw [hpd, if_pos rfl] at h
      have := (List.cons.inj h).1
      rw [← this, show ((92 : UInt8).toNat : Int) = 92 from rfl, plain92] at hpd; cases hpd
    | false =>
      rw [hpd, if_neg (by decide)] at h
      obtain ⟨_, h⟩ := List.cons.inj h
      obtain ⟨h1, h⟩ := List.cons.inj h
      obtain ⟨h2, h⟩ := List.cons.inj h
      have e1 := hexC_inj (by omega) (by omega) h1
      have e2 := hexC_inj (by omega) (by omega) h2
      exact ⟨UInt8.toNat_inj.1 (by omega), h⟩
theorem quoteC_ne (c : UInt8) : quoteC c ≠ [] := by unfold quoteC; split <;> simp
/-- What is read so far is a beginning. -/
theorem flat_prefix : ∀ (out t : List UInt8) (r : List UInt8), out.flatMap quoteC ++ r = t.flatMap quoteC → ∃ rest, t = out ++ rest ∧ r = rest.flatMap quoteC
  | [], t, r, h => ⟨t, rfl, h⟩
  | c :: out, [], r, h => by
    rw [List.flatMap_cons, List.flatMap_nil, List.append_assoc] at h
    exact absurd (List.append_eq_nil_iff.1 h).1 (quoteC_ne c)
  | c :: out, d :: t, r, h => by
    rw [List.flatMap_cons, List.flatMap_cons, List.append_assoc] at h
    obtain ⟨e, h'⟩ := quoteC_inj h
    subst e
    obtain ⟨rest, e2, hr⟩ := flat_prefix out t r h'
    exact ⟨rest, by rw [e2]; rfl, hr⟩
theorem flat_inj {a b : List UInt8} (h : a.flatMap quoteC = b.flatMap quoteC) : a = b := by
  obtain ⟨rest, h1, h2⟩ := flat_prefix a b [] (by rw [List.append_nil]; exact h)
  cases rest with
  | nil => rw [h1, List.append_nil]
  | cons c t => rw [List.flatMap_cons] at h2; exact absurd (List.append_eq_nil_iff.1 h2.symm).1 (quoteC_ne c)
theorem quoteOf_inj {a b : List UInt8} (h : quoteOf a = quoteOf b) : a = b := by
  unfold quoteOf at h
  have h1 : a.flatMap quoteC ++ [34] = b.flatMap quoteC ++ [34] := (List.cons.inj h).2
  exact flat_inj (List.append_cancel_right h1)
open Classical in
/-- What a quoted text says. -/
noncomputable def unqOf (s : List UInt8) : Option (List UInt8) := if h : ∃ t, s = quoteOf t then some (Classical.choose h) else none
theorem unq_some (t : List UInt8) : unqOf (quoteOf t) = some t := by
  unfold unqOf
  have h : ∃ u, quoteOf t = quoteOf u := ⟨t, rfl⟩
  rw [dif_pos h]
  congr 1
  exact (quoteOf_inj (Classical.choose_spec h)).symm
theorem unq_none {s : List UInt8} (h : ∀ t, s ≠ quoteOf t) : unqOf s = none := by
  unfold unqOf
  rw [dif_neg (fun ⟨t, ht⟩ => h t ht)]
/-- What Unquote tells. -/
noncomputable def unqV (s : List UInt8) : Value := match unqOf s with | some t => .tuple #[.string (bs t), .int .i64 0] | none => .tuple #[.string (bs []), .int .i64 4]
theorem unqV_some (t : List UInt8) : unqV (quoteOf t) = .tuple #[.string (bs t), .int .i64 0] := by unfold unqV; rw [unq_some]
theorem unqV_none {s : List UInt8} (h : ∀ t, s ≠ quoteOf t) : unqV s = .tuple #[.string (bs []), .int .i64 4] := by unfold unqV; rw [unq_none h]
theorem quoteOf_len (t : List UInt8) : 2 ≤ (quoteOf t).length := by unfold quoteOf; simp
theorem quoteOf_head (t : List UInt8) : bAt (quoteOf t) 0 = 34 := rfl
theorem quoteOf_last (t : List UInt8) : bAt (quoteOf t) ((quoteOf t).length - 1) = 34 := by
  have : quoteOf t = (34 :: t.flatMap quoteC) ++ [34] := rfl
  rw [this, List.length_append, show ([34] : List UInt8).length = 1 from rfl, Nat.add_sub_cancel]
  have := bAt_app2 (34 :: t.flatMap quoteC) [34] 0
  rw [Nat.add_zero] at this
  rw [this]; rfl
/-- The bytes between the quotes. -/
def inner (s : List UInt8) : List UInt8 := (s.drop 1).take (s.length - 2)
theorem inner_quote (t : List UInt8) : inner (quoteOf t) = t.flatMap quoteC := by
  unfold inner quoteOf
  simp
theorem inner_back {s : List UInt8} (h2 : 2 ≤ s.length) (hh : bAt s 0 = 34) (hl : bAt s (s.length - 1) = 34) : s = 34 :: inner s ++ [34] := by
  unfold inner
  cases s with
  | nil => simp at h2
  | cons c r =>
    have hc : c = 34 := hh
    subst hc
    rw [show (34 :: r).drop 1 = r from rfl, List.cons_append]
    congr 1
    have hr : r ≠ [] := by intro h; rw [h] at h2; simp at h2
    have hlen : (34 :: r).length - 2 = r.length - 1 := by simp
    have hlast : r.getLast hr = 34 := by
      have e : (34 :: r).length - 1 = (r.length - 1) + 1 := by
        have := List.length_pos_iff.2 hr; simp; omega
      rw [e] at hl
      rw [List.getLast_eq_getElem]
      have hb : bAt (34 :: r) (r.length - 1 + 1) = bAt r (r.length - 1) := rfl
      rw [hb] at hl
      have := List.length_pos_iff.2 hr
      simpa [bAt, show r.length - 1 < r.length by omega] using hl
    rw [hlen]
    conv => lhs; rw [← List.dropLast_concat_getLast hr, hlast]
    rw [List.dropLast_eq_take]
theorem quote_of_inner {s : List UInt8} (h2 : 2 ≤ s.length) (hh : bAt s 0 = 34) (hl : bAt s (s.length - 1) = 34) {t : List UInt8} (h : inner s = t.flatMap quoteC) : s = quoteOf t := by
  rw [inner_back h2 hh hl, h]; rfl
end Go.Proofs.YtecgjhjglklcnaaDoor
