/-
  What is kept through a region that draws its order and makes memory; the walk of DatumKinds.
-/
import Derived.Test.YtecgjhjglklcnaaDoorD13
import Derived.Test.YtecgjhjglklcnaaDoorD4
import Derived.Deep.RegionHeld3
import Derived.Deep.DrawnRows
namespace Go.Proofs.YtecgjhjglklcnaaDoor
set_option maxRecDepth 100000
open Go.RowKit Go.Shelf Go.Sort
attribute [local go_sem] bs_size bs_get bs_toList frombits tobits run_store_float
/-- The world stands above the one that the call began in. -/
def Kp (w W : World) : Prop := Below w.heap.size w W ∧ Laid W
theorem Kp.below {w W : World} (h : Kp w W) : Below w.heap.size w W := h.1
theorem Kp.laid {w W : World} (h : Kp w W) : Laid W := h.2
theorem Kp.start {w : World} (h : Laid w) : Kp w w := ⟨Below.refl _ _, h⟩
theorem Kp.next {w W W' : World} (h : Kp w W) (hb : Below W.heap.size W W') : Kp w W' := ⟨h.1.trans (hb.mono h.1.size), h.2.below hb⟩
theorem Kp.alloc {w W : World} (h : Kp w W) (o : Obj) : Kp w (W.alloc o) := h.next ((Below.refl _ _).alloc (Nat.le_refl _) o)
theorem Kp.drew {w W : World} (h : Kp w W) : Kp w W.drew := h.next (Below.refl _ _).drew
theorem Kp.drewN {w W : World} (h : Kp w W) (n : Nat) : Kp w (W.drewN n) := h.next (below_drewN (Below.refl _ _) n)
theorem keep1 {W W' : World} {a : Addr} {v : Value} (h : W.cell? a = some v) (hb : Below W.heap.size W W') : W'.cell? a = some v := by
  rw [hb.cell (World.block_lt_of_cell? W _ h)]; exact h
theorem keep3 {w W W' : World} {a0 a1 a2 : Addr} {v0 v1 v2 : Value} (h : W.cell? a0 = some v0 ∧ W.cell? a1 = some v1 ∧ W.cell? a2 = some v2 ∧ Kp w W) (hb : Below W.heap.size W W') :
    W'.cell? a0 = some v0 ∧ W'.cell? a1 = some v1 ∧ W'.cell? a2 = some v2 ∧ Kp w W' := ⟨keep1 h.1 hb, keep1 h.2.1 hb, keep1 h.2.2.1 hb, h.2.2.2.next hb⟩
theorem keep3d {w W : World} {a0 a1 a2 : Addr} {v0 v1 v2 : Value} (h : W.cell? a0 = some v0 ∧ W.cell? a1 = some v1 ∧ W.cell? a2 = some v2 ∧ Kp w W) :
    W.drew.cell? a0 = some v0 ∧ W.drew.cell? a1 = some v1 ∧ W.drew.cell? a2 = some v2 ∧ Kp w W.drew := keep3 h (Below.refl _ _).drew
theorem cval_self (k : Int) (x : UInt64) (s : List UInt8) (W : World) : Calls Tryd.prog 13 #[.agg #[.int .i64 k, .float .f64 (fb x), .string (bs s)], .agg #[.int .i64 k, .float .f64 (fb x), .string (bs s)]] W fun e w' => e = .returned (.bool true) ∧ Below W.heap.size W w' := value_self k x s W
theorem cnum (x : UInt64) (W : World) : Calls Tryd.prog 14 #[.float .f64 (fb x)] W fun e w' => e = .returned (.agg #[.int .i64 1, .float .f64 (fb (canon x)), .string (bs [])]) ∧ Below W.heap.size W w' := number_val x W
theorem cnumR (x : UInt64) (W : World) : Calls Tryd.prog 15 #[.float .f64 (fb x)] W fun e w' => e = .returned (.agg #[.int .i64 1, .float .f64 (fb (canon x)), .string (bs [])]) ∧ Below W.heap.size W w' := refNumber_val x W
theorem cwords (s : List UInt8) (W : World) : Calls Tryd.prog 16 #[.string (bs s)] W fun e w' => e = .returned (.agg #[.int .i64 (wordsK s), .float .f64 (fb 0), .string (bs (wordsS s))]) ∧ Below W.heap.size W w' := words_val s W
theorem cwordsR (s : List UInt8) (W : World) : Calls Tryd.prog 17 #[.string (bs s)] W fun e w' => e = .returned (.agg #[.int .i64 (wordsK s), .float .f64 (fb 0), .string (bs (wordsS s))]) ∧ Below W.heap.size W w' := refWords_val s W
theorem cmay (k : Int) (x : UInt64) (s : List UInt8) (W : World) : Calls Tryd.prog 20 #[.agg #[.int .i64 k, .float .f64 (fb x), .string (bs s)]] W fun e w' => e = .returned (.bool (mayB k x s)) ∧ Below W.heap.size W w' := may_any k x s W
theorem cmayR (k : Int) (x : UInt64) (s : List UInt8) (W : World) : Calls Tryd.prog 21 #[.agg #[.int .i64 k, .float .f64 (fb x), .string (bs s)]] W fun e w' => e = .returned (.bool (mayB k x s)) ∧ Below W.heap.size W w' := refMay_any k x s W
theorem csmall {k : Int} {x : UInt64} {s : List UInt8} {b : Bool} (h : decide (s.length ≤ 2000) = b) (W : World) : Calls Tryd.prog 12 #[.agg #[.int .i64 k, .float .f64 (fb x), .string (bs s)]] W fun e w' => e = .returned (.bool b) ∧ Below W.heap.size W w' := by
  have := small_val k x s W
  rw [h] at this; exact this
/-- A value that lies in a new block. -/
theorem vat (w : World) (k : Int) (x : UInt64) (s : List UInt8) (t : TypeId) : (w.alloc (.cells #[.int .i64 k, .float .f64 (fb x), .string (bs s)] t)).cell? ⟨w.heap.size, 0, none⟩ = some (.int .i64 k) ∧ (w.alloc (.cells #[.int .i64 k, .float .f64 (fb x), .string (bs s)] t)).cell? ⟨w.heap.size, 1, none⟩ = some (.float .f64 (fb x)) ∧ (w.alloc (.cells #[.int .i64 k, .float .f64 (fb x), .string (bs s)] t)).cell? ⟨w.heap.size, 2, none⟩ = some (.string (bs s)) := by
  refine ⟨?_, ?_, ?_⟩ <;> (rw [cell_of_row _ w.heap.size _ _ t (0, 0) (heap_alloc_new w _)]; rfl)
set_option maxHeartbeats 2000000 in
theorem kinds_any (l : List UInt8) (k : Int) (x : UInt64) (s : List UInt8) (y : UInt64) (w : World) (hT : Laid w) :
    Calls Tryd.prog 3 #[.string (bs l), VA k x s, .float .f64 (fb y)] w fun e w' => e = .returned (.bool true) ∧ Below w.heap.size w w' := by
  unfold VA
  have HK : Hid (Kp w (w.alloc (.cells #[.int .i64 k, .float .f64 (fb x), .string (bs s)] 24))) := (Kp.start hT).alloc _
  clear hT
  have hsz : (bs l).size = l.length := bs_size l
  obtain ⟨c0, c1, c2⟩ := vat w k x s 24
  by_cases hl : l.length ≤ 2000
  · by_cases hs : s.length ≤ 2000
    · have HS := Lib.hid (decide_eq_true hs)
      clear hs
      go_enter Tryd.func3, Tryd.ntmps3
      go_wp2_with (first | (go_at_call 11; ((with_reducible refine (first_any _ HK.out.laid).mono ?_); rintro e W ⟨rfl, hb⟩; have h4 := keep3 ⟨c0, c1, c2, HK.out⟩ hb; clear c0 c1 c2 HK hb; obtain ⟨c0, c1, c2, HK'⟩ := h4; have HK := Lib.hid HK'; clear HK')) | (go_at_call 12; ((with_reducible refine (csmall HS.out _).mono ?_); rintro e W ⟨rfl, hb⟩; have h4 := keep3 ⟨c0, c1, c2, HK.out⟩ hb; clear c0 c1 c2 HK hb; obtain ⟨c0, c1, c2, HK'⟩ := h4; have HK := Lib.hid HK'; clear HK')) | (go_at_call 14; ((with_reducible refine (cnum _ _).mono ?_); rintro e W ⟨rfl, hb⟩; have h4 := keep3 ⟨c0, c1, c2, HK.out⟩ hb; clear c0 c1 c2 HK hb; obtain ⟨c0, c1, c2, HK'⟩ := h4; have HK := Lib.hid HK'; clear HK')) | (go_at_call 15; ((with_reducible refine (cnumR _ _).mono ?_); rintro e W ⟨rfl, hb⟩; have h4 := keep3 ⟨c0, c1, c2, HK.out⟩ hb; clear c0 c1 c2 HK hb; obtain ⟨c0, c1, c2, HK'⟩ := h4; have HK := Lib.hid HK'; clear HK')) | (go_at_call 16; ((with_reducible refine (cwords _ _).mono ?_); rintro e W ⟨rfl, hb⟩; have h4 := keep3 ⟨c0, c1, c2, HK.out⟩ hb; clear c0 c1 c2 HK hb; obtain ⟨c0, c1, c2, HK'⟩ := h4; have HK := Lib.hid HK'; clear HK')) | (go_at_call 17; ((with_reducible refine (cwordsR _ _).mono ?_); rintro e W ⟨rfl, hb⟩; have h4 := keep3 ⟨c0, c1, c2, HK.out⟩ hb; clear c0 c1 c2 HK hb; obtain ⟨c0, c1, c2, HK'⟩ := h4; have HK := Lib.hid HK'; clear HK')) | (go_at_call 13; ((with_reducible refine (cval_self _ _ _ _).mono ?_); rintro e W ⟨rfl, hb⟩; have h4 := keep3 ⟨c0, c1, c2, HK.out⟩ hb; clear c0 c1 c2 HK hb; obtain ⟨c0, c1, c2, HK'⟩ := h4; have HK := Lib.hid HK'; clear HK')))
      go_region_held3 (fun W => W.cell? ⟨w.heap.size, 0, none⟩ = some (.int .i64 k) ∧ W.cell? ⟨w.heap.size, 1, none⟩ = some (.float .f64 (fb x)) ∧ W.cell? ⟨w.heap.size, 2, none⟩ = some (.string (bs s)) ∧ Kp w W) (first | assumption | exact keep3d ⟨c0, c1, c2, HK.out⟩ | exact keep3 (by assumption) hb) ((first | (go_at_call 11; refine (first_any _ (by assumption : _ ∧ _ ∧ _ ∧ Kp w _).2.2.2.laid).mono ?_; rintro e W ⟨rfl, hb⟩) | (go_at_call 18; refine (key_any _ _).mono ?_; rintro e W ⟨rfl, rfl⟩) | (go_at_call 19; refine (refKey_any _ _).mono ?_; rintro e W ⟨rfl, rfl⟩) | (go_at_call 20; refine (cmay _ _ _ _).mono ?_; rintro e W ⟨rfl, hb⟩) | (go_at_call 21; refine (cmayR _ _ _ _).mono ?_; rintro e W ⟨rfl, hb⟩)))
      all_goals
        go_wp2
        go_ret
        exact ⟨rfl, (by assumption : _ ∧ _ ∧ _ ∧ Kp w _).2.2.2.below⟩
    · have HS := Lib.hid (decide_eq_false hs)
      clear hs
      go_enter Tryd.func3, Tryd.ntmps3
      go_wp2_with (first | (go_at_call 11; ((with_reducible refine (first_any _ HK.out.laid).mono ?_); rintro e W ⟨rfl, hb⟩; have h4 := keep3 ⟨c0, c1, c2, HK.out⟩ hb; clear c0 c1 c2 HK hb; obtain ⟨c0, c1, c2, HK'⟩ := h4; have HK := Lib.hid HK'; clear HK')) | (go_at_call 12; ((with_reducible refine (csmall HS.out _).mono ?_); rintro e W ⟨rfl, hb⟩; have h4 := keep3 ⟨c0, c1, c2, HK.out⟩ hb; clear c0 c1 c2 HK hb; obtain ⟨c0, c1, c2, HK'⟩ := h4; have HK := Lib.hid HK'; clear HK')))
      go_ret
      exact ⟨rfl, HK.out.below⟩
  · have hl2 : decide ((2000 : Int) < (l.length : Int)) = true := decide_eq_true (by omega)
    go_enter Tryd.func3, Tryd.ntmps3
    go_wp2_with (go_at_call 11; ((with_reducible refine (first_any _ HK.out.laid).mono ?_); rintro e W ⟨rfl, hb⟩; have h4 := keep3 ⟨c0, c1, c2, HK.out⟩ hb; clear c0 c1 c2 HK hb; obtain ⟨c0, c1, c2, HK'⟩ := h4; have HK := Lib.hid HK'; clear HK'))
    go_ret
    exact ⟨rfl, HK.out.below⟩
end Go.Proofs.YtecgjhjglklcnaaDoor
