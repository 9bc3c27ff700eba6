/-
  What the listed package-level variables give: Laid; a start that meets the condition; floats that came in.
-/
import Derived.Test.YtalpbphfmelhhaaGreatDoorMA
import Derived.Test.YtalpbphfmelhhaaGreatDoorNB
import Derived.Test.YtalpbphfmelhhaaGreatDoorTie
import Derived.LaidMore
import Derived.Stop.Joined
import Derived.Stop.LaidErr
namespace Go.Proofs.YtalpbphfmelhhaaGreatDoor
open Go.ChangeShapes Go.WideShapes Go.ChangeAt Go.RowKit Go.Shelf

def laid3 : List (String × DataW Unit) := [("math/bits.deBruijn32tab", Rows.laid_math_bits_deBruijn32tab), ("math/bits.deBruijn64tab", Rows.laid_math_bits_deBruijn64tab), ("internal/strconv.uint64pow10", Rows.laid_internal_strconv_uint64pow10)]
theorem laidOut : laidOutB Tryz.prog = true := by kernel_rfl
theorem own : ownKnob Tryz.prog.godebug = none := by kernel_rfl
theorem door_met (os : Os) (args : Array Value) : laidMetH Tryz.prog laid3 ((World.doorLaid Tryz.prog 400 os).forCall (fun _ _ => 0) ⟨#[], args, []⟩).memory :=
  laidMetH_of_parts3 (fuel := 8) (laidMet_of_run' 8 (by kernel_rfl) (by kernel_rfl)) (by kernel_rfl) (by kernel_rfl)
theorem tab1 : Rows.laid_math_bits_deBruijn64tab (H := Unit) = Lib.tabData .u8 (Lib.deBruijn64tab.map fun n : Nat => (n : Int)) := by kernel_rfl
theorem tab2 : Rows.laid_internal_strconv_uint64pow10 (H := Unit) = Lib.tabData .u64 Lib.pow10Tab := by kernel_rfl
theorem laid_of {W : World} (h : laidMetH Tryz.prog laid3 W) : Laid W := by
  rw [MakeChecks.laidMetH_plain _ _ _ (by kernel_rfl)] at h
  unfold laid3 at h
  have h1 := h.tail
  have h2 := h1.tail
  rw [tab1] at h1
  rw [tab2] at h2
  have g1 : Tryz.prog.globalNamed "math/bits.deBruijn64tab" = some 1 := by kernel_rfl
  have g2 : Tryz.prog.globalNamed "internal/strconv.uint64pow10" = some 2 := by kernel_rfl
  have t1 : (Tryz.prog.globals[1]?).map (·.type) = some 175 := by kernel_rfl
  have t2 : (Tryz.prog.globals[2]?).map (·.type) = some 184 := by kernel_rfl
  have a1 := Lib.tabIs_of_head g1 t1 Tryz.underlying175 Tryz.underlying5 (by kernel_rfl) (by kernel_rfl) h1
  have a2 := Lib.tabIs_of_head g2 t2 Tryz.underlying184 Tryz.underlying113 (by kernel_rfl) (by kernel_rfl) h2
  refine ⟨fun j hj => ?_, a2, ?_⟩
  · have := a1.cell g1 j (by simpa using hj)
    rw [this]
    congr 1
    simp [List.getD, hj]
  · have := a2.cell g2 0 (by rw [Lib.pow10Tab_length]; decide)
    exact World.block_lt_of_cell? W _ this
theorem fb_of {b : Nat} (h : (Lit.float .f64 b).wf = true) : ∃ x : UInt64, b = fb x := by
  have hb : b < 18446744073709551616 := by simpa [Lit.wf] using h
  exact ⟨UInt64.ofNat b, by unfold fb; rw [UInt64.toNat_ofNat', Nat.mod_eq_of_lt hb]⟩
theorem bs_of (s : ByteArray) : ∃ l : List UInt8, s = bs l ∧ l.length = s.size := ⟨s.data.toList, by unfold bs; rfl, by show s.data.toList.length = s.data.size; exact Array.length_toList⟩
end Go.Proofs.YtalpbphfmelhhaaGreatDoor
