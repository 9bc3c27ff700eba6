/-
  What a proof's frame (proof-skeleton.mjs) tells of a slice of integers, read as bytes.
-/
import Derived.Test.YtcdbgekjjjbjbaaK1
import Derived.ProofKit
import Derived.OpenShut
import Derived.ShutString
import Derived.ChangeOld
namespace Go.Proofs.Ytcdbgekjjjbjbaa
open Go.ChangeShapes Go.WideShapes Go.ChangeAt Go.RowKit

/-- WHAT THE WALK IS TOLD OF A SLICE OF INTEGERS THAT CAME IN: it is nil; or it leads to a row of 'cap' cells, the numbers 'zs' (the first 'len' are its elements, the rest its spare room), each fitting its kind. -/
def IsRow (k : IntKind) (w : World) (a : Option Addr) (len cap : Nat) (zs : List Int) : Prop :=
  (a = none ∧ len = 0 ∧ cap = 0 ∧ zs = []) ∨
  ∃ x, a = some x ∧ len ≤ cap ∧ cap ≤ maxLen ∧ zs.length = cap ∧ (∀ i, i < zs.length → w.cell? (x.add i) = some (.int k (zs.getD i 0))) ∧ ∀ n ∈ zs, (Lit.int k n).wf = true

theorem u8_byte {n : Int} (h : (Lit.int .u8 n).wf = true) : n8 (UInt8.ofNat n.toNat) = n := by
  have hb := bounds_u8 h
  rw [n8_of _ (by omega)]; omega
theorem IsRow.rd8 {w : World} {a : Option Addr} {len cap : Nat} {zs : List Int} (h : IsRow .u8 w a len cap zs) : ∃ l : List UInt8, Rd8 w a len cap l := by
  rcases h with ⟨rfl, rfl, rfl, rfl⟩ | ⟨x, rfl, hl, hm, hz, hcell, hwf⟩
  · exact ⟨[], rfl, Rd.nil _ _⟩
  · refine ⟨(zs.take len).map fun n => UInt8.ofNat n.toNat, by simp; omega, hl, hm, (fun h => by cases h), by simp [B8]; omega, fun j u hj => ?_⟩
    obtain ⟨b, off, spot⟩ := x
    have hjl : j < len := by
      rcases Nat.lt_or_ge j len with h | h
      · exact h
      · rw [List.getElem?_eq_none (by simp [B8]; omega)] at hj; cases hj
    have hc := hcell j (by omega)
    have hspot : spot = none := by
      have hc0 := hcell 0 (by omega)
      simpa [Addr.add] using World.cell?_spot hc0
    subst hspot
    rw [Addr.add_none] at hc
    refine ⟨b, off, rfl, ?_⟩
    rw [hc]
    have hjz : j < zs.length := by omega
    have hw := hwf zs[j] (List.getElem_mem _)
    simp [B8, List.getElem?_take, hjl, List.getElem?_map, List.getElem?_eq_getElem hjz] at hj
    rw [← hj, u8_byte hw]
    simp [List.getD, hjz]

end Go.Proofs.Ytcdbgekjjjbjbaa
