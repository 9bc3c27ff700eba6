/-
  The walk of the reference's Parse behind its five words, by the signs. Written by a program (e23.py).
  The walk of the reference's Parse behind its five words, by the signs. Written by a program (e23.py).
  The walk of the reference's Parse behind its five words, by the signs. Written by a program (e23.py).
  The walk of the reference's Parse behind its five words, by the signs. Written by a program (e23.py).
  The walk of the reference's Parse behind its five words, by the signs. Written by a program (e23.py).
  The walk of the reference's Parse behind its five words, by the signs. Written by a program (e23.py).
  The walk of the reference's Parse behind its five words, by the signs. Written by a program (e23.py).
  The walk of the reference's Parse behind its five words, by the signs. Written by a program (e23.py).
  The walk of the reference's Parse behind its five words, by the signs. Written by a program (e23.py).
  The reference's Parse of any text: put together.
  What the chapter's examples fix: 'first' returns true.
-/
import Derived.Test.YtalpbphfmelhhaaGreatDoorNF
/-! ### The walk of the reference's Parse behind its five words, by the signs. Written by a program (e23.py). -/
namespace Go.Proofs.YtalpbphfmelhhaaGreatDoor
set_option maxRecDepth 100000
open Go.RowKit Go.Shelf Go.Sort
attribute [local go_sem] bs_size bs_get bs_toList neg_run

/-- What the reference's Parse tells. -/
def ToldB (w : World) (r : UInt64 × Int) (e : Ending) (w' : World) : Prop := e = .returned (.tuple #[.float .f64 (fb r.1), .int .i64 r.2]) ∧ Below w.heap.size w w'
end Go.Proofs.YtalpbphfmelhhaaGreatDoor

/-! ### The walk of the reference's Parse behind its five words, by the signs. Written by a program (e23.py). -/
namespace Go.Proofs.YtalpbphfmelhhaaGreatDoor
set_option maxRecDepth 100000
open Go.RowKit Go.Shelf Go.Sort
attribute [local go_sem] bs_size bs_get bs_toList neg_run
end Go.Proofs.YtalpbphfmelhhaaGreatDoor

/-! ### The walk of the reference's Parse behind its five words, by the signs. Written by a program (e23.py). -/
namespace Go.Proofs.YtalpbphfmelhhaaGreatDoor
set_option maxRecDepth 100000
open Go.RowKit Go.Shelf Go.Sort
attribute [local go_sem] bs_size bs_get bs_toList neg_run
end Go.Proofs.YtalpbphfmelhhaaGreatDoor

/-! ### The walk of the reference's Parse behind its five words, by the signs. Written by a program (e23.py). -/
namespace Go.Proofs.YtalpbphfmelhhaaGreatDoor
set_option maxRecDepth 100000
open Go.RowKit Go.Shelf Go.Sort
attribute [local go_sem] bs_size bs_get bs_toList neg_run
end Go.Proofs.YtalpbphfmelhhaaGreatDoor

/-! ### The walk of the reference's Parse behind its five words, by the signs. Written by a program (e23.py). -/
namespace Go.Proofs.YtalpbphfmelhhaaGreatDoor
set_option maxRecDepth 100000
open Go.RowKit Go.Shelf Go.Sort
attribute [local go_sem] bs_size bs_get bs_toList neg_run
end Go.Proofs.YtalpbphfmelhhaaGreatDoor

/-! ### The walk of the reference's Parse behind its five words, by the signs. Written by a program (e23.py). -/
namespace Go.Proofs.YtalpbphfmelhhaaGreatDoor
set_option maxRecDepth 100000
open Go.RowKit Go.Shelf Go.Sort
attribute [local go_sem] bs_size bs_get bs_toList neg_run
end Go.Proofs.YtalpbphfmelhhaaGreatDoor

/-! ### The walk of the reference's Parse behind its five words, by the signs. Written by a program (e23.py). -/
namespace Go.Proofs.YtalpbphfmelhhaaGreatDoor
set_option maxRecDepth 100000
open Go.RowKit Go.Shelf Go.Sort
attribute [local go_sem] bs_size bs_get bs_toList neg_run
end Go.Proofs.YtalpbphfmelhhaaGreatDoor

/-! ### The walk of the reference's Parse behind its five words, by the signs. Written by a program (e23.py). -/
namespace Go.Proofs.YtalpbphfmelhhaaGreatDoor
set_option maxRecDepth 100000
open Go.RowKit Go.Shelf Go.Sort
attribute [local go_sem] bs_size bs_get bs_toList neg_run
end Go.Proofs.YtalpbphfmelhhaaGreatDoor

/-! ### The walk of the reference's Parse behind its five words, by the signs. Written by a program (e23.py). -/
namespace Go.Proofs.YtalpbphfmelhhaaGreatDoor
set_option maxRecDepth 100000
open Go.RowKit Go.Shelf Go.Sort
attribute [local go_sem] bs_size bs_get bs_toList neg_run
end Go.Proofs.YtalpbphfmelhhaaGreatDoor

/-! ### The reference's Parse of any text: put together. -/
namespace Go.Proofs.YtalpbphfmelhhaaGreatDoor
set_option maxRecDepth 100000
open Go.RowKit Go.Shelf Go.Sort
attribute [local go_sem] bs_size bs_get bs_toList neg_run
section
attribute [local go_sem] ftop
set_option maxRecDepth 100000
set_option maxHeartbeats 400000
end
end Go.Proofs.YtalpbphfmelhhaaGreatDoor

/-! ### What the chapter's examples fix: 'first' returns true. -/
namespace Go.Proofs.YtalpbphfmelhhaaGreatDoor
set_option maxRecDepth 100000
open Go.RowKit Go.Shelf Go.Sort
attribute [local go_sem] bs_size bs_get bs_toList
theorem Laid.drewN {w : World} (h : Laid w) (n : Nat) : Laid (w.drewN n) := h.below (below_drewN (Below.refl _ _) n)
end Go.Proofs.YtalpbphfmelhhaaGreatDoor
