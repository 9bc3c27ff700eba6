/-
  The walk of the reference's reader: its number (plain part).
-/
import Derived.Test.YtecgjhjglklcnaaDoorX13
import Derived.Test.YtecgjhjglklcnaaDoorX6
namespace Go.Proofs.YtecgjhjglklcnaaDoor
set_option maxRecDepth 100000
open Go.RowKit Go.Shelf Go.Sort
/-- The bytes of the group from place k on, as the reference's second loop gathers them. -/
theorem rU_at (g : List UInt8) (k : Nat) (hk : k < g.length) : rU (g.drop k) = (rU (g.drop (k + 1)) <<< 7) ||| (g.getD k 0 &&& 127).toUInt64 := by
  have e : g.drop k = g.getD k 0 :: g.drop (k + 1) := by
    rw [List.drop_eq_getElem_cons hk]; simp [List.getD, List.getElem?_eq_getElem hk]
  rw [e]; rfl
theorem grp_len {m : List UInt8} (h : endOf m < m.length) : (grp m).length = endOf m + 1 := by
  obtain ⟨g, c, e1, e2, _⟩ := endOf_spec m h
  rw [e1]; simp [e2]
theorem unzz_half (u : UInt64) : (if u.toNat % 2 = 1 then -((u.toNat / 2 : Nat) : Int) - 1 else ((u.toNat / 2 : Nat) : Int)) = unzz u.toNat := by
  unfold unzz; split <;> simp_all <;> omega
end Go.Proofs.YtecgjhjglklcnaaDoor
