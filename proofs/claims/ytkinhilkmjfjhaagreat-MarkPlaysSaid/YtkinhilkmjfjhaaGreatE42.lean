/-
  The walk of DiskPlays.
-/
import Derived.Test.YtkinhilkmjfjhaaGreatEX
namespace Go.Proofs.YtkinhilkmjfjhaaGreat
open Go.RowKit Go.Maps Go.Sort
set_option maxRecDepth 100000
attribute [local go_sem] bs_size bs_toList

/-- The disk of a law, beside what is done elsewhere. -/
theorem LS.beside {B : Int} {W w w' : World} {d : Nat} {S S' : Nat → Prop} {s : DS} (h : LS B W w d S s) (hf : Fr S' w w') (hn : ∀ k, S k → ¬ S' k) (hl : ∀ k, S' k → W.heap.size ≤ k) : LS B W w' d S s :=
  ⟨h.1.keep hf hn, h.2.1, h.2.2.trans (hf.below h.2.2.size fun k hk hs => by have := hl k hs; omega)⟩
end Go.Proofs.YtkinhilkmjfjhaaGreat
