/-
  What the listed package-level variables give: Laid; a start that meets the condition; floats that came in.
-/
import Derived.Test.YtalpbphfmelhhaaGreatDoorMA
import Derived.Test.YtalpbphfmelhhaaGreatDoorNB
import Derived.Test.YtalpbphfmelhhaaGreatDoorTie
import Derived.LaidMore
import Derived.Stop.Joined
import Derived.Stop.LaidErr
namespace Go.Proofs.YtalpbphfmelhhaaGreatDoor
open Go.ChangeShapes Go.WideShapes Go.ChangeAt Go.RowKit Go.Shelf

def laid3 : List (String × DataW Unit) := [("math/bits.deBruijn32tab", Rows.laid_math_bits_deBruijn32tab), ("math/bits.deBruijn64tab", Rows.laid_math_bits_deBruijn64tab), ("internal/strconv.uint64pow10", Rows.laid_internal_strconv_uint64pow10)]
theorem laidOut : laidOutB Tryz.prog = true := by kernel_rfl
theorem own : ownKnob Tryz.prog.godebug = none := by kernel_rfl
theorem door_met (os : Os) (args : Array Value) : laidMetH Tryz.prog laid3 ((World.doorLaid Tryz.prog 400 os).forCall (fun _ _ => 0) ⟨#[], args, []⟩).memory :=
  laidMetH_of_parts3 (fuel := 8) (laidMet_of_run' 8 (by kernel_rfl) (by kernel_rfl)) (by kernel_rfl) (by kernel_rfl)
theorem tab1 : Rows.laid_math_bits_deBruijn64tab (H := Unit) = Lib.tabData .u8 (Lib.deBruijn64tab.map fun n : Nat => (n : Int)) := by kernel_rfl
theorem tab2 : Rows.laid_internal_strconv_uint64pow10 (H := Unit) = Lib.tabData .u64 Lib.pow10Tab := by kernel_rfl
theorem laid_of {W : World} (h : laidMetH Tryz.prog laid3 W) : Laid W := by
  rw [MakeChecks.laidMetH_plain _ _ _ (by kernel_rfl)] at h
  unfold laid3 at h
  have h1 := h.tail
  have h2 := h1.tail
  rw [tab1] at h1
  rw [tab2] at h2
  have g1 : Tryz.prog.globalNamed "math/bits.deBruijn64tab" = some 1 := by kernel_rfl
  have g2 : Tryz.prog.globalNamed "internal/strconv.uint64pow10" = some 2 := by kernel_rfl
  have t1 : (Tryz.prog.globals[1]?).map (·.type) = some 175 := by kernel_rfl
  have t2 : (Tryz.prog.globals[2]?).map (·.type) = some 184 := by kernel_rfl
  have a1 := Lib.tabIs_of_head g1 t1 Tryz.underlying175 Tryz.underlying5 (by kernel_rfl) (by kernel_rfl) h1
  have a2 := Lib.tabIs_of_head g2 t2 Tryz.underlying184 Tryz.underlying113 (by kernel_rfl) (by kernel_rfl) h2
  refine ⟨fun j hj => ?_, a2, ?_⟩
  · have := a1.cell g1 j (by simpa using hj)
    rw [this]
    congr 1
    simp [List.getD, hj]
  · have := a2.cell g2 0 (by rw [Lib.pow10Tab_length]; decide)
    exact World.block_lt_of_cell? W _ this
theorem fb_of {b : Nat} (h : (Lit.float .f64 b).wf = true) : ∃ x : UInt64, b = fb x := by
  have hb : b < 18446744073709551616 := by simpa [Lit.wf] using h
  exact ⟨UInt64.ofNat b, by unfold fb; rw [UInt64.toNat_ofNat', Nat.mod_eq_of_lt hb]⟩
theorem fb_wf (x : UInt64) : (Lit.float .f64 (fb x)).wf = true := by
  exact decide_eq_true x.toNat_lt
theorem n64_of' {n : Int} (h : (Lit.int .u64 n).wf = true) : ∃ x : UInt64, n = n64 x := by
  have hb := bounds_u64 h
  exact ⟨UInt64.ofNat n.toNat, by rw [n64_of _ (by omega)]; omega⟩
theorem bs_of (s : ByteArray) : ∃ l : List UInt8, s = bs l ∧ l.length = s.size := ⟨s.data.toList, by unfold bs; rfl, by show s.data.toList.length = s.data.size; exact Array.length_toList⟩
set_option maxRecDepth 100000 in
/-- A list of floats that came in. -/
theorem rdF_open {H : Type} {enc : TypeId × Value → H} {w : World} {base : Nat} {sp : Nat → Bool} {held : Bool} {t e : TypeId} {fuel : Nat} {a : Option Addr} {len cap : Nat} {x : DataW H × List MemPlace}
    (ht : Tryz.prog.underlying t = some (.slice e)) (he : Tryz.prog.underlying e = some (.float .f64)) (hc : Tryz.prog.cellsOf e = 1)
    (h : DataW.trod enc Tryz.prog w base sp held fuel t (Value.slice a len cap).cells.toList = some x) : ∃ l, RdF w a len cap l := by
  obtain ⟨xs, hr, m, hel⟩ := rd_open ht hc (by decide) h
  have hlen : xs.length = len := by simpa using hr.2.2.2.1
  have hx : ∀ i, i < len → ∃ z : UInt64, xs[i]? = some (.float .f64 (fb z)) := by
    intro i hi
    obtain ⟨y, hy⟩ := hel i hi
    obtain ⟨n, hn, hw⟩ := trod_float he hy
    obtain ⟨z, rfl⟩ := fb_of hw
    refine ⟨z, ?_⟩
    have := congrArg (·[0]?) hn
    simpa [List.getElem?_take, List.getElem?_drop] using this
  let l : List UInt64 := (List.range len).map fun i => match xs[i]? with | some (Value.float _ b) => UInt64.ofNat b | _ => 0
  have hll : l.length = len := by simp [l]
  have hxs : xs = BF l := by
    apply List.ext_getElem?
    intro i
    by_cases hi : i < len
    · obtain ⟨z, hz⟩ := hx i hi
      rw [BF_get l i (by omega), hz]
      congr 2
      have : l.getD i 0 = z := by
        simp only [l, List.getD, List.getElem?_map, List.getElem?_range, hi, Option.map_some, Option.getD_some, hz]
        unfold fb
        exact UInt64.toNat_inj.1 (by rw [UInt64.toNat_ofNat', Nat.mod_eq_of_lt z.toNat_lt])
      rw [this]
    · rw [List.getElem?_eq_none (by omega), List.getElem?_eq_none (by rw [BF_length]; omega)]
  exact ⟨l, hll.symm, by rw [← hxs]; exact hr⟩
end Go.Proofs.YtalpbphfmelhhaaGreatDoor
