/-
  The walk of the reference's Unquote.
-/
import Derived.Test.YtalpbphfmelhhaaGreatDoorD10
import Derived.StillTailTactics
namespace Go.Proofs.YtalpbphfmelhhaaGreatDoor
set_option maxRecDepth 100000
open Go.RowKit Go.Shelf Go.Sort
attribute [local go_sem] bs_size bs_get bs_toList
/-- What is read so far is a beginning, if the text is a quoted one. -/
def Begun (m out : List UInt8) (k : Nat) : Prop := ∀ t : List UInt8, m = t.flatMap quoteC → m.take k = out.flatMap quoteC
theorem Begun.plain {m out : List UInt8} {k : Nat} (h : Begun m out k) (hk : k < m.length) (h92 : bAt m k ≠ 92) : Begun m (out ++ [bAt m k]) (k + 1) := by
  intro t ht
  obtain ⟨c, h1 | h1⟩ := stuck (h t ht) hk ht
  · exact step_plain (h t ht) hk (by rw [h1.2]; exact h1.1)
  · exact absurd h1.2.1 h92
theorem Begun.hex {m out : List UInt8} {k : Nat} (h : Begun m out k) (hk : k < m.length) (h92 : bAt m k = 92) : Begun m (out ++ [hexV (bAt m (k + 1)) (bAt m (k + 2))]) (k + 3) := by
  intro t ht
  obtain ⟨c, h1 | h1⟩ := stuck (h t ht) hk ht
  · rw [← h1.2, h92] at h1; exact absurd h1.1 (by decide)
  · obtain ⟨p1, p2, p3, p4, p5⟩ := h1
    have hc := c.toNat_lt
    have z1 := hexZ_hexC (c.toNat / 16) (by omega)
    have z2 := hexZ_hexC (c.toNat % 16) (by omega)
    have hv : hexV (bAt m (k + 1)) (bAt m (k + 2)) = c := by
      apply UInt8.toNat_inj.1
      have hv := hexV_int (bAt m (k + 1)) (bAt m (k + 2)) (by rw [p4]; omega) (by rw [p5]; omega)
      rw [p4, p5] at hv ⊢
      omega
    exact step_hex (h t ht) p3 h92 (by rw [p4, z1]; omega) (by rw [p5, z2]; omega) (by rw [hv]; exact p1)
theorem Begun.no {m out : List UInt8} {k : Nat} (h : Begun m out k) (hk : k < m.length) (h92 : bAt m k = 92)
    (hb : ¬ k + 2 < m.length ∨ hexZ ((bAt m (k + 1)).toNat : Int) < 0 ∨ hexZ ((bAt m (k + 2)).toNat : Int) < 0) : ∀ t : List UInt8, m ≠ t.flatMap quoteC := by
  intro t ht
  obtain ⟨c, h1 | h1⟩ := stuck (h t ht) hk ht
  · rw [← h1.2, h92] at h1; exact absurd h1.1 (by decide)
  · obtain ⟨p1, p2, p3, p4, p5⟩ := h1
    have hc := c.toNat_lt
    have z1 := hexZ_hexC (c.toNat / 16) (by omega)
    have z2 := hexZ_hexC (c.toNat % 16) (by omega)
    rcases hb with hb | hb | hb
    · exact hb p3
    · rw [p4] at hb; omega
    · rw [p5] at hb; omega
theorem Own8.drew {w : World} {base : Nat} {e : TypeId} {v : Value} {l : List UInt8} (h : Own8 w base e v l) : Own8 w.drew base e v l := h.below (Nat.le_refl _) (Below.refl _ _).drew
end Go.Proofs.YtalpbphfmelhhaaGreatDoor
