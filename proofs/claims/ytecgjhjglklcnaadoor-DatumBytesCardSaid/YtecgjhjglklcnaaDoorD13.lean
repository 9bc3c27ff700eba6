/-
  What the chapter's examples fix: 'first' returns true.
-/
import Derived.Test.YtecgjhjglklcnaaDoorD12
import Derived.Test.YtecgjhjglklcnaaDoorD3
import Derived.Test.YtecgjhjglklcnaaDoorLK
namespace Go.Proofs.YtecgjhjglklcnaaDoor
set_option maxRecDepth 100000
open Go.RowKit Go.Shelf Go.Sort
attribute [local go_sem] bs_size bs_get bs_toList frombits tobits run_store_float
theorem exA : parseD [34, 97, 34] = ⟨2, 0, [97], 0⟩ := by
  have hq : ([34, 97, 34] : List UInt8) = quoteOf [97] := by decide +kernel
  unfold parseD
  rw [if_pos (by decide), hq, unq_some]
  rfl
theorem exB : canon 4611686018427387904 = 4611686018427387904 := by decide +kernel
theorem exC : canon (opOf .add 0 4611686018427387904) = 4611686018427387904 := by decide +kernel
theorem exD : textOf 1 4611686018427387904 [] = [49, 112, 49] := by
  unfold textOf
  rw [if_pos (by decide +kernel), if_pos rfl]
  have h := print_fin false (m := 1) (e := 1) ⟨by decide, by decide, by decide, by decide⟩ (by decide)
  have e : txt false 1 1 = [49, 112, 49] := by
    unfold txt
    rw [show (1 : Int) = ((1 : Nat) : Int) from rfl, itoa_plain, dd_small (n := 1) (by decide)]; rfl
  rw [e] at h
  rw [← h]; congr 1
theorem exE : plusV 0 0 [] 1 4611686018427387904 [] = .tuple #[VA 1 4611686018427387904 [], .int .i64 0] := by
  unfold plusV
  rw [if_pos (by decide +kernel), exC]
theorem cparse (w : World) : Calls Tryd.prog 24 #[.string ⟨#[34, 97, 34]⟩] w fun e w' => e = .returned (.tuple #[.agg #[.int .i64 2, .float .f64 (fb 0), .string (bs [97])], .int .i64 0]) ∧ Below w.heap.size w w' := by
  have := parseV_any [34, 97, 34] (by decide) w
  rw [exA] at this; exact this
theorem cnumber (w : World) : Calls Tryd.prog 14 #[.float .f64 4611686018427387904] w fun e w' => e = .returned (.agg #[.int .i64 1, .float .f64 (fb 4611686018427387904), .string (bs [])]) ∧ Below w.heap.size w w' := by
  have := number_val 4611686018427387904 w
  rw [exB] at this; exact this
theorem cplus (w : World) : Calls Tryd.prog 30 #[.agg #[.int .i64 0, .float .f64 0, .string ⟨#[]⟩], .agg #[.int .i64 1, .float .f64 (fb 4611686018427387904), .string (bs [])]] w fun e w' => e = .returned (.tuple #[.agg #[.int .i64 1, .float .f64 (fb 4611686018427387904), .string (bs [])], .int .i64 0]) ∧ Below w.heap.size w w' := by
  have := plus_any 0 0 [] 1 4611686018427387904 [] w
  rw [exE] at this; exact this
theorem cvalue (w : World) : Calls Tryd.prog 13 #[.agg #[.int .i64 1, .float .f64 (fb 4611686018427387904), .string (bs [])], .agg #[.int .i64 1, .float .f64 4611686018427387904, .string ⟨#[]⟩]] w fun e w' => e = .returned (.bool true) ∧ Below w.heap.size w w' := value_self 1 4611686018427387904 [] w
theorem cprint (w : World) (hT : Laid w) : Calls Tryd.prog 28 #[.agg #[.int .i64 1, .float .f64 (fb 4611686018427387904), .string (bs [])]] w fun e w' => e = .returned (.string (bs [49, 112, 49])) ∧ Below w.heap.size w w' := by
  have := printV_any 1 4611686018427387904 [] w hT
  rw [exD] at this; exact this
theorem ckey1 (w : World) : Calls Tryd.prog 18 #[.string ⟨#[107]⟩] w fun e w' => e = .returned (.bool true) ∧ w' = w := key_any [107] w
theorem ckey2 (w : World) : Calls Tryd.prog 18 #[.string ⟨#[]⟩] w fun e w' => e = .returned (.bool false) ∧ w' = w := key_any [] w
theorem eqz (w : World) : (Op.equalIn 9999 22 (.float .f64 (fb 0)) (.float .f64 0)).run Tryd.prog w = .ok true w := by kernel_rfl
set_option maxHeartbeats 1000000 in
theorem first_any (w : World) (hT : Laid w) : Calls Tryd.prog 11 #[] w fun e w' => e = .returned (.bool true) ∧ Below w.heap.size w w' := by
  have HT := Lib.hid hT
  clear hT
  have heq := eqz
  go_enter Tryd.func11, Tryd.ntmps11
  go_wp2_with (go_at_call 24; ((with_reducible refine (cparse _).mono ?_); rintro e w1 ⟨rfl, hb1⟩))
  go_at_call 14
  refine (cnumber _).mono ?_
  rintro e w2 ⟨rfl, hb2⟩
  have z2 : w1.heap.size < w2.heap.size := by have := hb2.size; simp at this; omega
  obtain ⟨hc2, hf2⟩ := bcell hb2
  have hw2 : Below w.heap.size w w2 := (hb1.alloc hb1.size _).trans (hb2.mono (by have := hb1.size; simp; omega))
  clear hb2
  go_wp2_with fail
  go_at_call 30
  refine (cplus _).mono ?_
  rintro e w3 ⟨rfl, hb3⟩
  have z3 : w1.heap.size < w3.heap.size := by have := hb3.size; omega
  obtain ⟨hc3, hf3⟩ := bcell hb3
  have hw3 : Below w.heap.size w w3 := hw2.trans (hb3.mono hw2.size)
  clear hb3
  go_wp2_with fail
  go_at_call 13
  refine (cvalue _).mono ?_
  rintro e w4 ⟨rfl, hb4⟩
  have z4 : w1.heap.size < w4.heap.size ∧ w3.heap.size < w4.heap.size := by have := hb4.size; simp at this; omega
  obtain ⟨z4, y4⟩ := z4
  obtain ⟨hc4, hf4⟩ := bcell hb4
  have hw4 : Below w.heap.size w w4 := (hw3.alloc hw3.size _).trans (hb4.mono (by have := hw3.size; simp; omega))
  clear hb4
  go_wp2_with fail
  go_at_call 28
  refine (cprint _ (HT.out.below hw4)).mono ?_
  rintro e w5 ⟨rfl, hb5⟩
  have hw5 : Below w.heap.size w w5 := hw4.trans (hb5.mono hw4.size)
  clear hb5
  go_wp2_with (first | (go_at_call 18; ((with_reducible refine (ckey1 _).mono ?_); rintro e w' ⟨rfl, rfl⟩)) | (go_at_call 18; ((with_reducible refine (ckey2 _).mono ?_); rintro e w' ⟨rfl, rfl⟩)))
  go_ret
  exact ⟨rfl, hw5⟩
end Go.Proofs.YtecgjhjglklcnaaDoor
