/-
  Plain laws of the way through a quoted text.
-/
import Derived.Test.YtecgjhjglklcnaaDoorD8
namespace Go.Proofs.YtecgjhjglklcnaaDoor
open Go.RowKit Go.Shelf Go.Sort
theorem hexZ_bd (n : Int) : -1 ≤ hexZ n ∧ hexZ n ≤ 15 := by unfold hexZ; split <;> (try split) <;> omega
theorem hexC_hexZ (c : UInt8) (h : 0 ≤ hexZ (c.toNat : Int)) : hexC (hexZ (c.toNat : Int)).toNat = c := by
  have hb := hexZ_bd (c.toNat : Int)
  apply UInt8.toNat_inj.1
  rw [hexC_nat _ (by omega)]
  unfold hexZ at h ⊢
  split at h
  · rename_i h1; rw [if_pos h1]; split <;> omega
  · rename_i h1
    split at h
    · rename_i h2; rw [if_neg h1, if_pos h2]; split <;> omega
    · omega
theorem bAt_drop (m : List UInt8) (i j : Nat) : bAt (m.drop i) j = bAt m (i + j) := by simp [bAt]
/-- What stands where the reading stands, if the text is a quoted one. -/
theorem stuck {m out t : List UInt8} {i : Nat} (h : m.take i = out.flatMap quoteC) (hi : i < m.length) (hm : m = t.flatMap quoteC) :
    ∃ c : UInt8, (plainZ (c.toNat : Int) = true ∧ bAt m i = c) ∨ (plainZ (c.toNat : Int) = false ∧ bAt m i = 92 ∧ i + 2 < m.length ∧ bAt m (i + 1) = hexC (c.toNat / 16) ∧ bAt m (i + 2) = hexC (c.toNat % 16)) := by
  have hs : out.flatMap quoteC ++ m.drop i = t.flatMap quoteC := by rw [← h, List.take_append_drop]; exact hm
  obtain ⟨rest, _, hr⟩ := flat_prefix out t _ hs
  cases rest with
  | nil =>
    exfalso
    have : (m.drop i).length = 0 := by rw [hr]; rfl
    rw [List.length_drop] at this; omega
  | cons c u =>
    rw [List.flatMap_cons] at hr
    have b0 := bAt_drop m i 0
    have b1 := bAt_drop m i 1
    have b2 := bAt_drop m i 2
    refine ⟨c, ?_⟩
    generalize u.flatMap quoteC = U at hr
    unfold quoteC at hr
    cases hp : plainZ (c.toNat : Int) with
    | true =>
      rw [hp, if_pos rfl] at hr
      rw [hr] at b0
      exact .inl ⟨rfl, b0.symm⟩
    | false =>
      rw [hp, if_neg (by decide)] at hr
      have hl : (m.drop i).length = 3 + U.length := by rw [hr]; simp only [List.length_append, List.length_cons, List.length_nil]
      rw [List.length_drop] at hl
      rw [hr] at b0 b1 b2
      exact .inr ⟨rfl, b0.symm, by omega, b1.symm, b2.symm⟩
theorem take_succ' (m : List UInt8) (i : Nat) (h : i < m.length) : m.take (i + 1) = m.take i ++ [bAt m i] := B8_take_succ m i h
/-- A plain byte read. -/
theorem step_plain {m out : List UInt8} {i : Nat} (h : m.take i = out.flatMap quoteC) (hi : i < m.length) (hp : plainZ ((bAt m i).toNat : Int) = true) : m.take (i + 1) = (out ++ [bAt m i]).flatMap quoteC := by
  rw [take_succ' m i hi, h, List.flatMap_append]
  congr 1
  simp [quoteC, hp]
/-- A byte in base sixteen read. -/
def hexV (a b : UInt8) : UInt8 := UInt8.ofNat (hexZ (a.toNat : Int) * 16 + hexZ (b.toNat : Int)).toNat
theorem hexV_int (a b : UInt8) (ha : 0 ≤ hexZ (a.toNat : Int)) (hb : 0 ≤ hexZ (b.toNat : Int)) : ((hexV a b).toNat : Int) = hexZ (a.toNat : Int) * 16 + hexZ (b.toNat : Int) := by
  have h1 := hexZ_bd (a.toNat : Int)
  have h2 := hexZ_bd (b.toNat : Int)
  unfold hexV
  rw [UInt8.toNat_ofNat']; omega
theorem step_hex {m out : List UInt8} {i : Nat} (h : m.take i = out.flatMap quoteC) (hi : i + 2 < m.length) (h92 : bAt m i = 92) (ha : 0 ≤ hexZ ((bAt m (i + 1)).toNat : Int)) (hb : 0 ≤ hexZ ((bAt m (i + 2)).toNat : Int))
    (hp : plainZ ((hexV (bAt m (i + 1)) (bAt m (i + 2))).toNat : Int) = false) : m.take (i + 3) = (out ++ [hexV (bAt m (i + 1)) (bAt m (i + 2))]).flatMap quoteC := by
  have hv := hexV_int _ _ ha hb
  have b1 := hexZ_bd ((bAt m (i + 1)).toNat : Int)
  have b2 := hexZ_bd ((bAt m (i + 2)).toNat : Int)
  rw [take_succ' m (i + 2) hi, take_succ' m (i + 1) (by omega), take_succ' m i (by omega), h, List.flatMap_append, h92]
  have e1 : (hexV (bAt m (i + 1)) (bAt m (i + 2))).toNat / 16 = (hexZ ((bAt m (i + 1)).toNat : Int)).toNat := by omega
  have e2 : (hexV (bAt m (i + 1)) (bAt m (i + 2))).toNat % 16 = (hexZ ((bAt m (i + 2)).toNat : Int)).toNat := by omega
  have hq : quoteC (hexV (bAt m (i + 1)) (bAt m (i + 2))) = [92, bAt m (i + 1), bAt m (i + 2)] := by
    unfold quoteC
    rw [hp, if_neg (by decide), e1, e2, hexC_hexZ _ ha, hexC_hexZ _ hb]
  simp [hq]
/-- No reading where it is stuck. -/
theorem stuck_no {m out : List UInt8} {i : Nat} (h : m.take i = out.flatMap quoteC) (hi : i < m.length) (hp : plainZ ((bAt m i).toNat : Int) = false)
    (hb : bAt m i ≠ 92 ∨ ¬ i + 2 < m.length ∨ hexZ ((bAt m (i + 1)).toNat : Int) < 0 ∨ hexZ ((bAt m (i + 2)).toNat : Int) < 0 ∨ plainZ ((hexV (bAt m (i + 1)) (bAt m (i + 2))).toNat : Int) = true) (t : List UInt8) : m ≠ t.flatMap quoteC := by
  intro hm
  obtain ⟨c, h1 | ⟨h1, h2, h3, h4, h5⟩⟩ := stuck h hi hm
  · rw [h1.2] at hp; rw [hp] at h1; cases h1.1
  · have hc := c.toNat_lt
    have z1 := hexZ_hexC (c.toNat / 16) (by omega)
    have z2 := hexZ_hexC (c.toNat % 16) (by omega)
    rcases hb with hb | hb | hb | hb | hb
    · exact hb h2
    · exact hb h3
    · rw [h4] at hb; omega
    · rw [h5] at hb; omega
    · have : hexV (bAt m (i + 1)) (bAt m (i + 2)) = c := by
        apply UInt8.toNat_inj.1
        have hv := hexV_int (bAt m (i + 1)) (bAt m (i + 2)) (by rw [h4]; omega) (by rw [h5]; omega)
        rw [h4, h5] at hv ⊢
        omega
      rw [this, h1] at hb; cases hb
end Go.Proofs.YtecgjhjglklcnaaDoor
