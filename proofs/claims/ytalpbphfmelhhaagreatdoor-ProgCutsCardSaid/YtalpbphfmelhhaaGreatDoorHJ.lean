/-
  The document's run: small functions (raceref9.seenAt, truth, bit).
  The document's step of two values (raceref9.reckons). Written by a program (h26gen.py).
  The document's step of two values, whole (raceref9.reckons).
-/
import Derived.Test.YtalpbphfmelhhaaGreatDoorHI
/-! ### The document's run: small functions (raceref9.seenAt, truth, bit). -/
namespace Go.Proofs.YtalpbphfmelhhaaGreatDoor
open Go.RowKit Go.Maps Go.Sort
set_option maxRecDepth 100000
attribute [local go_sem] bs_size bs_get bs_toList frombits tobits run_store_float
end Go.Proofs.YtalpbphfmelhhaaGreatDoor

/-! ### The document's step of two values (raceref9.reckons). Written by a program (h26gen.py). -/
namespace Go.Proofs.YtalpbphfmelhhaaGreatDoor
open Go.RowKit Go.Maps Go.Sort
set_option maxRecDepth 100000
attribute [local go_sem] bs_size bs_get bs_toList frombits tobits run_store_float
end Go.Proofs.YtalpbphfmelhhaaGreatDoor

/-! ### The document's step of two values, whole (raceref9.reckons). -/
namespace Go.Proofs.YtalpbphfmelhhaaGreatDoor
open Go.RowKit Go.Maps Go.Sort
set_option maxRecDepth 100000
attribute [local go_sem] bs_size bs_get bs_toList frombits tobits run_store_float
def RkPost (w : World) (c : Int) (a b : Vl) (e : Ending) (w' : World) : Prop := ∃ v : Vl, e = .returned (.tuple #[VA v.k v.x v.s, .int .i64 (twoP c a b).2]) ∧ ((twoP c a b).2 = 0 → (twoP c a b).1 = [v]) ∧ Below w.heap.size w w'
end Go.Proofs.YtalpbphfmelhhaaGreatDoor
