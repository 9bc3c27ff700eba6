/-
  The walks of the laws NumPrints, NumParses.
-/
import Derived.Test.YtachfcdkokndfaaDoorNG
namespace Go.Proofs.YtachfcdkokndfaaDoor
open Go.RowKit Go.Shelf Go.Sort
attribute [local go_sem] bs_size bs_get bs_toList
set_option maxHeartbeats 400000 in
theorem numPrints_walk (x : UInt64) (w : World) (hT : Laid w) : Calls Tryd.prog 3 #[.float .f64 (fb x)] w fun e w' => e = .returned (.bool true) ∧ Below w.heap.size w w' := by
  go_enter Tryd.func3, Tryd.ntmps3
  go_wp2_with fail
  go_at_call 15
  refine (first_any _ hT).mono ?_
  rintro e w1 ⟨rfl, hb⟩
  go_wp2_with fail
  go_at_call 16
  refine (print_any x _ (hT.below hb)).mono ?_
  rintro e w2 ⟨rfl, hb2⟩
  go_wp2_with fail
  go_at_call 17
  refine (refPrint_any x _).mono ?_
  rintro e w3 ⟨rfl, hb3⟩
  go_wp2
  go_ret
  exact ⟨rfl, (hb.trans (hb2.mono hb.size)).trans (hb3.mono (Nat.le_trans hb.size hb2.size))⟩
end Go.Proofs.YtachfcdkokndfaaDoor
