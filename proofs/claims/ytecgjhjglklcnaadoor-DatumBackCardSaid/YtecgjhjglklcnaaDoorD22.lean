/-
  The walk of DatumTexts. Written by a program (dlaw.py).
-/
import Derived.Test.YtecgjhjglklcnaaDoorD15
namespace Go.Proofs.YtecgjhjglklcnaaDoor
set_option maxRecDepth 100000
open Go.RowKit Go.Shelf Go.Sort
attribute [local go_sem] bs_size bs_get bs_toList frombits tobits run_store_float
theorem cquote (l : List UInt8) (hl : l.length ≤ 1000000) (W : World) : Calls Tryd.prog 26 #[.string (bs l)] W fun e w' => e = .returned (.string (bs (quoteOf l))) ∧ Below W.heap.size W w' := quote_any l hl W
theorem cunq {l : List UInt8} {t : List UInt8} {er : Int} (hl : l.length ≤ 100000) (h : unqV l = .tuple #[.string (bs t), .int .i64 er]) (W : World) : Calls Tryd.prog 22 #[.string (bs l)] W fun e w' => e = .returned (.tuple #[.string (bs t), .int .i64 er]) ∧ Below W.heap.size W w' := by
  have := unquote_any l (by omega) W
  rw [h] at this; exact this
theorem cunqR {l : List UInt8} {t : List UInt8} {er : Int} (hl : l.length ≤ 100000) (h : unqV l = .tuple #[.string (bs t), .int .i64 er]) (W : World) : Calls Tryd.prog 23 #[.string (bs l)] W fun e w' => e = .returned (.tuple #[.string (bs t), .int .i64 er]) ∧ Below W.heap.size W w' := by
  have := refUnquote_any l hl W
  rw [h] at this; exact this
set_option maxHeartbeats 4000000 in
theorem texts_any (l : List UInt8) (k : Int) (x : UInt64) (s : List UInt8) (w : World) (hT : Laid w) : Calls Tryd.prog 4 #[.string (bs l), VA k x s] w fun e w' => e = .returned (.bool true) ∧ Below w.heap.size w w' := by
  unfold VA
  have HK : Hid (Kp w (w.alloc (.cells #[.int .i64 k, .float .f64 (fb x), .string (bs s)] 24))) := (Kp.start hT).alloc _
  clear hT
  obtain ⟨c0, c1, c2⟩ := vat w k x s 24
  have hsz : (bs l).size = l.length := bs_size l
  by_cases hl : l.length ≤ 2000
  case neg =>
    have hl2 : decide ((2000 : Int) < (l.length : Int)) = true := decide_eq_true (by omega)
    go_enter Tryd.func4, Tryd.ntmps4
    go_wp2_with (go_at_call 11; ((with_reducible refine (first_any _ HK.out.laid).mono ?_); rintro e W ⟨rfl, hb⟩; have h4 := keepc3 ⟨c0, c1, c2, HK.out⟩ hb; clear c0 c1 c2 HK hb; obtain ⟨c0, c1, c2, HK'⟩ := h4; have HK := Lib.hid HK'; clear HK'))
    go_ret
    exact ⟨rfl, HK.out.below⟩
  case pos =>
  cases hs : decide (s.length ≤ 2000) with
  | false =>
    have HS := Lib.hid hs
    clear hs
    go_enter Tryd.func4, Tryd.ntmps4
    go_wp2_with (first | (go_at_call 11; ((with_reducible refine (first_any _ HK.out.laid).mono ?_); rintro e W ⟨rfl, hb⟩; have h4 := keepc3 ⟨c0, c1, c2, HK.out⟩ hb; clear c0 c1 c2 HK hb; obtain ⟨c0, c1, c2, HK'⟩ := h4; have HK := Lib.hid HK'; clear HK')) | (go_at_call 12; ((with_reducible refine (csmall HS.out _).mono ?_); rintro e W ⟨rfl, hb⟩; have h4 := keepc3 ⟨c0, c1, c2, HK.out⟩ hb; clear c0 c1 c2 HK hb; obtain ⟨c0, c1, c2, HK'⟩ := h4; have HK := Lib.hid HK'; clear HK')))
    go_ret
    exact ⟨rfl, HK.out.below⟩
  | true =>
  have HS := Lib.hid hs
  clear hs
  obtain ⟨t, er, hu⟩ : ∃ (t : List UInt8) (er : Int), unqV l = .tuple #[.string (bs t), .int .i64 er] := by
    rcases unqV_cases l with ⟨_, h⟩ | ⟨t, _, _, h⟩
    · exact ⟨_, _, h⟩
    · exact ⟨_, _, h⟩
  have HU := Lib.hid hu
  clear hu
  obtain ⟨p, hp⟩ : ∃ p, parseD l = p := ⟨_, rfl⟩
  have HP := Lib.hid hp
  clear hp
  go_enter Tryd.func4, Tryd.ntmps4
  go_wp2_with (first | (go_at_call 11; ((with_reducible refine (first_any _ HK.out.laid).mono ?_); rintro e W ⟨rfl, hb⟩; have h4 := keepc3 ⟨c0, c1, c2, HK.out⟩ hb; clear c0 c1 c2 HK hb; obtain ⟨c0, c1, c2, HK'⟩ := h4; have HK := Lib.hid HK'; clear HK')) | (go_at_call 12; ((with_reducible refine (csmall HS.out _).mono ?_); rintro e W ⟨rfl, hb⟩; have h4 := keepc3 ⟨c0, c1, c2, HK.out⟩ hb; clear c0 c1 c2 HK hb; obtain ⟨c0, c1, c2, HK'⟩ := h4; have HK := Lib.hid HK'; clear HK')))
  go_at_call 22
  refine (cunq (by omega) HU.out _).mono ?_
  rintro e W ⟨rfl, hb⟩
  have h4 := keepc3 ⟨c0, c1, c2, HK.out⟩ hb
  clear c0 c1 c2 HK hb
  obtain ⟨c0, c1, c2, HK'⟩ := h4
  have HK := Lib.hid HK'
  clear HK'
  go_wp2_with fail
  go_at_call 23
  refine (cunqR (by omega) HU.out _).mono ?_
  rintro e W ⟨rfl, hb⟩
  have h4 := keepc3 ⟨c0, c1, c2, HK.out⟩ hb
  clear c0 c1 c2 HK hb
  obtain ⟨c0, c1, c2, HK'⟩ := h4
  have HK := Lib.hid HK'
  clear HK'
  go_wp2_with fail
  go_at_call 24
  refine (cparseA _ (by omega) HP.out _).mono ?_
  rintro e Wp ⟨rfl, hb⟩
  have h4 := keepc3 ⟨c0, c1, c2, HK.out⟩ hb
  clear c0 c1 c2 HK hb
  obtain ⟨c0, c1, c2, HK'⟩ := h4
  have HK := Lib.hid HK'
  clear HK'
  have l0 : w.heap.size < Wp.heap.size := World.block_lt_of_cell? _ _ c0
  go_wp2_with fail
  go_at_call 25
  refine (cparseR _ (by omega) HP.out _).mono ?_
  rintro e Wq ⟨rfl, hb⟩
  have h4 := keepca3 ⟨c0, c1, c2, HK.out⟩ hb
  have hv := vat Wp p.k p.x p.s 24
  have d0 := keep1 hv.1 hb
  have d1 := keep1 hv.2.1 hb
  have d2 := keep1 hv.2.2 hb
  clear hv
  clear c0 c1 c2 HK hb
  obtain ⟨c0, c1, c2, HK'⟩ := h4
  have HK := Lib.hid HK'
  clear HK'
  have c3 := d0
  have c4 := d1
  have c5 := d2
  clear d0 d1 d2
  have l0 : w.heap.size < Wq.heap.size := World.block_lt_of_cell? _ _ c0
  have l1 : Wp.heap.size < Wq.heap.size := World.block_lt_of_cell? _ _ c3
  go_wp2_with fail
  have hv := vat Wq p.k p.x p.s 24
  have h4 := keepc6 ⟨c0, c1, c2, c3, c4, c5, HK.out⟩ ((Below.refl _ _).alloc (Nat.le_refl _) (.cells #[.int .i64 p.k, .float .f64 (fb p.x), .string (bs p.s)] 24))
  clear c0 c1 c2 c3 c4 c5 HK
  obtain ⟨c0, c1, c2, c3, c4, c5, HK'⟩ := h4
  have HK := Lib.hid HK'
  clear HK'
  obtain ⟨c6, c7, c8⟩ := hv
  go_region_held3 (fun W => W.cell? ⟨w.heap.size, 0, none⟩ = some (.int .i64 k) ∧ W.cell? ⟨w.heap.size, 1, none⟩ = some (.float .f64 (fb x)) ∧ W.cell? ⟨w.heap.size, 2, none⟩ = some (.string (bs s)) ∧ W.cell? ⟨Wp.heap.size, 0, none⟩ = some (.int .i64 p.k) ∧ W.cell? ⟨Wp.heap.size, 1, none⟩ = some (.float .f64 (fb p.x)) ∧ W.cell? ⟨Wp.heap.size, 2, none⟩ = some (.string (bs p.s)) ∧ W.cell? ⟨Wq.heap.size, 0, none⟩ = some (.int .i64 p.k) ∧ W.cell? ⟨Wq.heap.size, 1, none⟩ = some (.float .f64 (fb p.x)) ∧ W.cell? ⟨Wq.heap.size, 2, none⟩ = some (.string (bs p.s)) ∧ Kp w W) (first | assumption | exact keepcd9 ⟨c0, c1, c2, c3, c4, c5, c6, c7, c8, HK.out⟩ | exact keepc9 (by assumption) hb) ((first | (go_at_call 11; with_reducible (refine (first_any _ ((by assumption : _ ∧ _ ∧ _ ∧ _ ∧ _ ∧ _ ∧ _ ∧ _ ∧ _ ∧ Kp w _).2.2.2.2.2.2.2.2.2.laid)).mono ?_); rintro e W ⟨rfl, hb⟩) | (go_at_call 26; with_reducible (refine (cquote _ (by omega) _).mono ?_); rintro e W ⟨rfl, hb⟩) | (go_at_call 27; with_reducible (refine (refQuote_any _ (by omega) _).mono ?_); rintro e W ⟨rfl, hb⟩) | (go_at_call 13; with_reducible (refine (cval_self _ _ _ _).mono ?_); rintro e W ⟨rfl, hb⟩) | (go_at_call 28; with_reducible (refine (cprintA _ _ _ rfl _ ((by assumption : _ ∧ _ ∧ _ ∧ _ ∧ _ ∧ _ ∧ _ ∧ _ ∧ _ ∧ Kp w _).2.2.2.2.2.2.2.2.2.laid)).mono ?_); rintro e W ⟨rfl, hb⟩) | (go_at_call 29; with_reducible (refine (cprintR _ _ _ rfl _ ((by assumption : _ ∧ _ ∧ _ ∧ _ ∧ _ ∧ _ ∧ _ ∧ _ ∧ _ ∧ Kp w _).2.2.2.2.2.2.2.2.2.laid)).mono ?_); rintro e W ⟨rfl, hb⟩)))
  all_goals
    go_wp2
    go_ret
    exact ⟨rfl, (by assumption : _ ∧ _ ∧ _ ∧ _ ∧ _ ∧ _ ∧ _ ∧ _ ∧ _ ∧ Kp w _).2.2.2.2.2.2.2.2.2.below⟩
end Go.Proofs.YtecgjhjglklcnaaDoor
