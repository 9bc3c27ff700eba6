/-
 What a proof's frame (proof-skeleton.mjs) tells of a slice of integers, read as bytes.
-/
import Derived.Test.YtjjcilinghgphaaGreatK1
import Derived.ProofKit
import Derived.OpenShut
import Derived.ShutString
import Derived.ChangeOld
import Derived.Deep.Matrix
namespace Go.Proofs.YtjjcilinghgphaaGreat
open Go.ChangeShapes Go.WideShapes Go.ChangeAt Go.RowKit

/-- WHAT THE WALK IS TOLD OF A SLICE OF INTEGERS THAT CAME IN: it is nil; or it leads to a row of 'cap' cells, the numbers 'zs' (the first 'len' are its elements, the rest its spare room), each fitting its kind. -/
def IsRow (k : IntKind) (w : World) (a : Option Addr) (len cap : Nat) (zs : List Int) : Prop :=
 (a = none ∧ len = 0 ∧ cap = 0 ∧ zs = []) ∨
 ∃ x, a = some x ∧ len ≤ cap ∧ cap ≤ maxLen ∧ zs.length = cap ∧ (∀ i, i < zs.length → w.cell? (x.add i) = some (.int k (zs.getD i 0))) ∧ ∀ n ∈ zs, (Lit.int k n).wf = true

theorem u8_byte {n : Int} (h : (Lit.int .u8 n).wf = true) : n8 (UInt8.ofNat n.toNat) = n := by
 have hb := bounds_u8 h
 rw [n8_of _ (by omega)]; omega
/-- A slice of slices of bytes that came in. -/
theorem rd88_open {H : Type} {enc : TypeId × Value → H} {P : Program} {w : World} {base : Nat} {held : Bool} {t e q : TypeId} {fuel : Nat} {a : Option Addr} {len cap : Nat} {x : DataW H × List MemPlace}
 (ht : P.underlying t = some (.slice e)) (he : P.underlying e = some (.slice q)) (hq : P.underlying q = some (.int .u8)) (ce : P.cellsOf e = 1) (cq : P.cellsOf q = 1)
 (h : DataW.trod enc P w base (fun _ => true) held fuel t (Value.slice a len cap).cells.toList = some x) : ∃ ls, Rd88 w a len cap ls := by
 rcases Go.Deep.open_int_rows ht he hq ce cq h with ⟨hcs, _⟩ | ⟨a', len', cap', A, L, C, Z, hcs, _, hl, hm, _, hr⟩
 · simp [Value.cells] at hcs
   obtain ⟨rfl, rfl, rfl⟩ := hcs
   exact ⟨[], rfl, [], Rd.nil _ _, by simp⟩
 · simp [Value.cells] at hcs
   obtain ⟨rfl, rfl, rfl⟩ := hcs
   let row (r : Nat) : List UInt8 := ((Z r).take (L r)).map fun n => UInt8.ofNat n.toNat
   have hrow : ∀ r, r < cap → Rd8 w (A r) (L r) (C r) (row r) := by
    intro r hrc
    obtain ⟨_, h1, h2, h3, h4, h5, h6⟩ := hr r hrc
    have hlen : (row r).length = L r := by simp [row]; omega
    refine ⟨hlen.symm, h1, h2, h5, by rw [B8_length, hlen]; omega, fun j u hj => ?_⟩
    have hjl : j < L r := by
     rcases Nat.lt_or_ge j (L r) with h | h
     · exact h
     · rw [List.getElem?_eq_none (by rw [B8_length, hlen]; exact h)] at hj; cases hj
    cases hA : A r with
    | none => have := h5 hA; omega
    | some x0 =>
     obtain ⟨_, hc⟩ := h6 x0 hA
     obtain ⟨b, off, spot⟩ := x0
     have hc0 := hc 0 (by omega)
     have hspot : spot = none := by simpa [Addr.add] using World.cell?_spot hc0
     subst hspot
     have hcj := hc j (by omega)
     rw [Addr.add_none] at hcj
     refine ⟨b, off, rfl, ?_⟩
     rw [hcj]
     have hjz : j < (Z r).length := by omega
     have hw := h4 (Z r)[j] (List.getElem_mem _)
     simp [row, B8, hjl, List.getElem?_map, List.getElem?_eq_getElem hjz] at hj
     rw [← hj, u8_byte hw]
     simp [List.getD, hjz]
   refine ⟨(List.range len).map row, by simp, (List.range len).map fun r => Value.slice (A r) (L r) (C r), ⟨hl, hm, (fun h => by cases h), by simp, fun j u hj => ?_⟩, fun i l hi => ?_⟩
   · have hjl : j < len := by
      rcases Nat.lt_or_ge j len with h | h
      · exact h
      · rw [List.getElem?_eq_none (by simpa using h)] at hj; cases hj
     have hc0 := (hr 0 (by omega)).1
     have hcj := (hr j (by omega)).1
     obtain ⟨b, off, spot⟩ := a'
     have hspot : spot = none := by simpa [Addr.add] using World.cell?_spot hc0
     subst hspot
     rw [Addr.add_none] at hcj
     refine ⟨b, off, rfl, ?_⟩
     rw [hcj]
     simp [hjl] at hj
     rw [hj]
   · have hil : i < len := by
      rcases Nat.lt_or_ge i len with h | h
      · exact h
      · rw [List.getElem?_eq_none (by simpa using h)] at hi; cases hi
     simp [hil] at hi
     subst hi
     have h8 := hrow i (by omega)
     have hlen : (row i).length = L i := h8.1.symm
     refine ⟨A i, C i, by simp [hil, hlen], ?_⟩
     exact h8.len hlen

end Go.Proofs.YtjjcilinghgphaaGreat
