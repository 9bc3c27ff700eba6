/-
  The chapter's examples (first). Written by a program (e17gen.py).
-/
import Derived.Test.YtjjcilinghgphaaE16
import Derived.Lib.SlBytesConst
namespace Go.Proofs.Ytjjcilinghgphaa
open Go.RowKit Go.Maps Go.Sort
set_option maxRecDepth 100000
attribute [local go_sem] bs_size bs_toList

theorem Done.new {B : Int} {w w' w2 : World} {d : Nat} {S : Nat → Prop} {s : DS} (h : Done B w d S s w') (hb : Below w'.heap.size w' w2) : Done B w d S s w2 :=
  ⟨(h.1.below hb).mono (Int.le_refl _) (fun k hk => hk.elim .inl fun h => .inr ⟨h.1, Nat.lt_of_lt_of_le h.2 hb.size⟩) (fun k hk => by
    rcases hk with hk | hk
    · exact Nat.lt_of_lt_of_le (h.1.lt k (.inl hk)) hb.size
    · exact hk.2), h.2.trans (Fr.of_new hb)⟩
/-- A deed behind another, told by the first world. -/
theorem Done.told {B : Int} {w w1 w2 : World} {d : Nat} {S : Nat → Prop} {s : DS} {r : DS × Int} {x : Ending} (h : Done B w d S s w1) (k : Told B w1 d (Sx S w w1) r x w2) {e : Int} (he : r.2 = e) : x = .returned (.int .i64 e) ∧ Done (B + 1) w d S r.1 w2 := by
  rw [← he]
  exact ⟨k.1, Done.trans h.2 k.2⟩
theorem Done.told2 {B : Int} {w w1 wx w2 : World} {d : Nat} {S : Nat → Prop} {s : DS} {r : DS × Int} {x : Ending} (h : Done B w d S s w1) (hb : Below w1.heap.size w1 wx) (k : Told B wx d (Sx S w w1) r x w2) {e : Int} (he : r.2 = e) : x = .returned (.int .i64 e) ∧ Done (B + 1) w d S r.1 w2 := by
  rw [← he]
  exact ⟨k.1, Done.trans h.2 (Done.trans0 (Fr.of_new hb) k.2)⟩
theorem Done.off {B : Int} {w w1 : World} {d : Nat} {S : Nat → Prop} {s : DS} (h : Done B w d S s w1) : ∀ k, w1.heap.size ≤ k → ¬ Sx S w w1 k := fun k hk e => by have := h.1.lt k e; omega
end Go.Proofs.Ytjjcilinghgphaa
