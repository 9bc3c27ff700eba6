/-
  What is kept through a region that draws its order and makes memory; the walk of DatumKinds.
  Cells that are kept; contracts of datum's functions, value by value. Written by a program (dlaw.py).
-/
import Derived.Test.YtalpbphfmelhhaaGreatDoorD12
import Derived.Test.YtalpbphfmelhhaaGreatDoorDK
import Derived.Test.YtalpbphfmelhhaaGreatDoorD4
import Derived.Deep.RegionHeld3
import Derived.Deep.DrawnRows
/-! ### What is kept through a region that draws its order and makes memory; the walk of DatumKinds. -/
namespace Go.Proofs.YtalpbphfmelhhaaGreatDoor
set_option maxRecDepth 100000
open Go.RowKit Go.Shelf Go.Sort
attribute [local go_sem] bs_size bs_get bs_toList frombits tobits run_store_float
/-- The world stands above the one that the call began in. -/
def Kp (w W : World) : Prop := Below w.heap.size w W ∧ Laid W
theorem Kp.below {w W : World} (h : Kp w W) : Below w.heap.size w W := h.1
theorem Kp.laid {w W : World} (h : Kp w W) : Laid W := h.2
theorem Kp.start {w : World} (h : Laid w) : Kp w w := ⟨Below.refl _ _, h⟩
theorem Kp.next {w W W' : World} (h : Kp w W) (hb : Below W.heap.size W W') : Kp w W' := ⟨h.1.trans (hb.mono h.1.size), h.2.below hb⟩
theorem Kp.alloc {w W : World} (h : Kp w W) (o : Obj) : Kp w (W.alloc o) := h.next ((Below.refl _ _).alloc (Nat.le_refl _) o)
theorem Kp.drew {w W : World} (h : Kp w W) : Kp w W.drew := h.next (Below.refl _ _).drew
theorem Kp.drewN {w W : World} (h : Kp w W) (n : Nat) : Kp w (W.drewN n) := h.next (below_drewN (Below.refl _ _) n)
theorem keep1 {W W' : World} {a : Addr} {v : Value} (h : W.cell? a = some v) (hb : Below W.heap.size W W') : W'.cell? a = some v := by
  rw [hb.cell (World.block_lt_of_cell? W _ h)]; exact h
theorem cnum (x : UInt64) (W : World) : Calls Tryz.prog 111 #[.float .f64 (fb x)] W fun e w' => e = .returned (.agg #[.int .i64 1, .float .f64 (fb (canon x)), .string (bs [])]) ∧ Below W.heap.size W w' := number_val x W
theorem cnumR (x : UInt64) (W : World) : Calls Tryz.prog 85 #[.float .f64 (fb x)] W fun e w' => e = .returned (.agg #[.int .i64 1, .float .f64 (fb (canon x)), .string (bs [])]) ∧ Below W.heap.size W w' := refNumber_val x W
theorem cmay (k : Int) (x : UInt64) (s : List UInt8) (W : World) : Calls Tryz.prog 69 #[.agg #[.int .i64 k, .float .f64 (fb x), .string (bs s)]] W fun e w' => e = .returned (.bool (mayB k x s)) ∧ Below W.heap.size W w' := may_any k x s W
theorem cmayR (k : Int) (x : UInt64) (s : List UInt8) (W : World) : Calls Tryz.prog 33 #[.agg #[.int .i64 k, .float .f64 (fb x), .string (bs s)]] W fun e w' => e = .returned (.bool (mayB k x s)) ∧ Below W.heap.size W w' := refMay_any k x s W
/-- A value that lies in a new block. -/
theorem vat (w : World) (k : Int) (x : UInt64) (s : List UInt8) (t : TypeId) : (w.alloc (.cells #[.int .i64 k, .float .f64 (fb x), .string (bs s)] t)).cell? ⟨w.heap.size, 0, none⟩ = some (.int .i64 k) ∧ (w.alloc (.cells #[.int .i64 k, .float .f64 (fb x), .string (bs s)] t)).cell? ⟨w.heap.size, 1, none⟩ = some (.float .f64 (fb x)) ∧ (w.alloc (.cells #[.int .i64 k, .float .f64 (fb x), .string (bs s)] t)).cell? ⟨w.heap.size, 2, none⟩ = some (.string (bs s)) := by
  refine ⟨?_, ?_, ?_⟩ <;> (rw [cell_of_row _ w.heap.size _ _ t (0, 0) (heap_alloc_new w _)]; rfl)
end Go.Proofs.YtalpbphfmelhhaaGreatDoor

/-! ### Cells that are kept; contracts of datum's functions, value by value. Written by a program (dlaw.py). -/
namespace Go.Proofs.YtalpbphfmelhhaaGreatDoor
set_option maxRecDepth 100000
open Go.RowKit Go.Shelf Go.Sort
/-- What Plus tells. -/
def plusD (ka : Int) (xa : UInt64) (sa : List UInt8) (kb : Int) (xb : UInt64) (sb : List UInt8) : PV :=
  if mayB ka xa sa && mayB kb xb sb && !(ka == 2) && !(kb == 2) then ⟨1, canon (opOf .add xa xb), [], 0⟩ else ⟨0, 0, [], 23⟩
section
variable (ka : Int) (xa : UInt64) (sa : List UInt8) (kb : Int) (xb : UInt64) (sb : List UInt8)
theorem ccmp {c : Int} (h : cmpV ka xa sa kb xb sb = c) (W : World) : Calls Tryz.prog 103 #[.agg #[.int .i64 ka, .float .f64 (fb xa), .string (bs sa)], .agg #[.int .i64 kb, .float .f64 (fb xb), .string (bs sb)]] W fun e w' => e = .returned (.int .i64 c) ∧ Below W.heap.size W w' := by
  have := compareV_any ka xa sa kb xb sb W
  rw [h] at this; exact this
theorem ccmpR {c : Int} (h : cmpV ka xa sa kb xb sb = c) (W : World) : Calls Tryz.prog 84 #[.agg #[.int .i64 ka, .float .f64 (fb xa), .string (bs sa)], .agg #[.int .i64 kb, .float .f64 (fb xb), .string (bs sb)]] W fun e w' => e = .returned (.int .i64 c) ∧ Below W.heap.size W w' := by
  have := refCompareV_any ka xa sa kb xb sb W
  rw [h] at this; exact this
end
section
variable (k : Int) (x : UInt64) (s : List UInt8)
end
theorem cparseA (l : List UInt8) (hl : l.length ≤ 100000) {p : PV} (h : parseD l = p) (W : World) : Calls Tryz.prog 88 #[.string (bs l)] W fun e w' => e = .returned (.tuple #[.agg #[.int .i64 p.k, .float .f64 (fb p.x), .string (bs p.s)], .int .i64 p.e]) ∧ Below W.heap.size W w' := by
  have := parseV_any l hl W
  rw [h] at this; exact this
theorem cparseR (l : List UInt8) (hl : l.length ≤ 100000) {p : PV} (h : parseD l = p) (W : World) : Calls Tryz.prog 60 #[.string (bs l)] W fun e w' => e = .returned (.tuple #[.agg #[.int .i64 p.k, .float .f64 (fb p.x), .string (bs p.s)], .int .i64 p.e]) ∧ Below W.heap.size W w' := by
  have := refParseV_any l hl W
  rw [h] at this; exact this
end Go.Proofs.YtalpbphfmelhhaaGreatDoor
