/-
  The walks of the laws NumParses, NumBits, NumReckons, NumNext.
-/
import Derived.Test.YtachfcdkokndfaaDoorL1
namespace Go.Proofs.YtachfcdkokndfaaDoor
open Go.RowKit Go.Shelf Go.Sort
attribute [local go_sem] bs_size bs_get bs_toList
theorem rbits_self (x : UInt64) (w : World) : Calls Tryd.prog 20 #[.float .f64 (fb x), .float .f64 (fb x)] w fun e w' => e = .returned (.bool true) ∧ w' = w := by
  have := rbits_any x x w
  rw [beq_self_eq_true] at this; exact this
set_option maxHeartbeats 400000 in
theorem numParses_walk (l : List UInt8) (w : World) (hT : Laid w) : Calls Tryd.prog 4 #[.string (bs l)] w fun e w' => e = .returned (.bool true) ∧ Below w.heap.size w w' := by
  by_cases h : 2000 < l.length
  · go_enter Tryd.func4, Tryd.ntmps4
    go_wp2_with fail
    go_at_call 15
    refine (first_any _ hT).mono ?_
    rintro e w1 ⟨rfl, hb⟩
    go_wp2_with fail
    go_at_call 15
    refine (first_any _ (hT.below hb)).mono ?_
    rintro e w2 ⟨rfl, hb2⟩
    go_wp2
    go_ret
    exact ⟨rfl, hb.trans (hb2.mono hb.size)⟩
  · have hl : l.length ≤ 4611686018427387904 := by omega
    have HP : Hid (∀ W, Calls Tryd.prog 18 #[.string (bs l)] W (Told W (parseOf l))) := fun W => parse_any l hl W
    have HR : Hid (∀ W, Calls Tryd.prog 19 #[.string (bs l)] W (ToldB W (parseOf l))) := fun W => refParse_any l hl W
    generalize parseOf l = q at *
    obtain ⟨z, er⟩ := q
    go_enter Tryd.func4, Tryd.ntmps4
    go_wp2_with fail
    go_at_call 15
    refine (first_any _ hT).mono ?_
    rintro e w1 ⟨rfl, hb⟩
    go_wp2_with fail
    go_at_call 18
    refine (HP.out _).mono ?_
    rintro e w2 ⟨rfl, nd, rfl⟩
    go_wp2_with fail
    go_at_call 19
    refine (HR.out _).mono ?_
    rintro e w3 ⟨rfl, hb3⟩
    have hbb : Below w.heap.size w w3 := (below_drewN hb nd).trans (hb3.mono (below_drewN hb nd).size)
    clear hb3
    go_wp2_with fail
    go_at_call 15
    refine (first_any _ (hT.below hbb)).mono ?_
    rintro e w4 ⟨rfl, hb4⟩
    go_wp2_with (go_at_call 20; ((with_reducible refine (rbits_self _ _).mono ?_); rintro e w' ⟨rfl, rfl⟩))
    go_ret
    exact ⟨rfl, hbb.trans (hb4.mono hbb.size)⟩
set_option maxHeartbeats 1000000 in
theorem numBits_walk (b x : UInt64) (w : World) (hT : Laid w) : Calls Tryd.prog 6 #[.int .u64 (n64 b), .float .f64 (fb x)] w fun e w' => e = .returned (.bool true) ∧ Below w.heap.size w w' := by
  go_enter Tryd.func6, Tryd.ntmps6
  go_wp2_with fail
  go_at_call 15
  refine (first_any _ hT).mono ?_
  rintro e w1 ⟨rfl, hb⟩
  go_wp2_with (first | (go_at_call 22; ((with_reducible refine (of_any _ _).mono ?_); rintro e w' ⟨rfl, rfl⟩)) | (go_at_call 23; ((with_reducible refine (refOf_any _ _).mono ?_); rintro e w' ⟨rfl, rfl⟩)) | (go_at_call 20; ((with_reducible refine (rbits_self _ _).mono ?_); rintro e w' ⟨rfl, rfl⟩)) | (go_at_call 24; ((with_reducible refine (canon_any _ _).mono ?_); rintro e w' ⟨rfl, rfl⟩)) | (go_at_call 25; ((with_reducible refine (refCanon_any _ _).mono ?_); rintro e w' ⟨rfl, rfl⟩)) | (go_at_call 26; ((with_reducible refine (bitsF_any _ _).mono ?_); rintro e w' ⟨rfl, rfl⟩)) | (go_at_call 27; ((with_reducible refine (refBits_any _ _).mono ?_); rintro e w' ⟨rfl, rfl⟩)) | (go_at_call 21; ((with_reducible refine (class_any _ _).mono ?_); rintro e w' ⟨rfl, rfl⟩)) | (go_at_call 28; ((with_reducible refine (refClass_any _ _).mono ?_); rintro e w' ⟨rfl, rfl⟩)) | (go_at_call 29; ((with_reducible refine (rank_any _ _).mono ?_); rintro e w' ⟨rfl, rfl⟩)) | (go_at_call 30; ((with_reducible refine (refRank_any _ _).mono ?_); rintro e w' ⟨rfl, rfl⟩)) | (go_at_call 31; ((with_reducible refine (back_any _ _).mono ?_); rintro e w' ⟨rfl, rfl⟩)) | (go_at_call 32; ((with_reducible refine (refBack_any _ _).mono ?_); rintro e w' ⟨rfl, rfl⟩)))
  go_at_call 15
  refine (first_any _ (hT.below hb)).mono ?_
  rintro e w2 ⟨rfl, hb2⟩
  go_wp2_with (first | (go_at_call 21; ((with_reducible refine (class_any _ _).mono ?_); rintro e w' ⟨rfl, rfl⟩)) | (go_at_call 28; ((with_reducible refine (refClass_any _ _).mono ?_); rintro e w' ⟨rfl, rfl⟩)))
  go_ret
  exact ⟨rfl, hb.trans (hb2.mono hb.size)⟩
set_option maxHeartbeats 1000000 in
theorem numReckons_walk (x y : UInt64) (w : World) (hT : Laid w) : Calls Tryd.prog 12 #[.float .f64 (fb x), .float .f64 (fb y)] w fun e w' => e = .returned (.bool true) ∧ Below w.heap.size w w' := by
  go_enter Tryd.func12, Tryd.ntmps12
  go_wp2_with fail
  go_at_call 15
  refine (first_any _ hT).mono ?_
  rintro e w1 ⟨rfl, hb⟩
  go_wp2_with (first | (go_at_call 20; ((with_reducible refine (rbits_self _ _).mono ?_); rintro e w' ⟨rfl, rfl⟩)) | (go_at_call 38; ((with_reducible refine (add_any _ _ _).mono ?_); rintro e w' ⟨rfl, nd1, rfl⟩)) | (go_at_call 39; ((with_reducible refine (does0_any _ _ _).mono ?_); rintro e w' ⟨rfl, nd2, rfl⟩)) | (go_at_call 40; ((with_reducible refine (sub_any _ _ _).mono ?_); rintro e w' ⟨rfl, nd3, rfl⟩)) | (go_at_call 39; ((with_reducible refine (does1_any _ _ _).mono ?_); rintro e w' ⟨rfl, nd4, rfl⟩)) | (go_at_call 41; ((with_reducible refine (mul_any _ _ _).mono ?_); rintro e w' ⟨rfl, nd5, rfl⟩)) | (go_at_call 39; ((with_reducible refine (does2_any _ _ _).mono ?_); rintro e w' ⟨rfl, nd6, rfl⟩)) | (go_at_call 42; ((with_reducible refine (div_any _ _ _).mono ?_); rintro e w' ⟨rfl, nd7, rfl⟩)) | (go_at_call 39; ((with_reducible refine (does3_any _ _ _).mono ?_); rintro e w' ⟨rfl, nd8, rfl⟩)) | (go_at_call 36; ((with_reducible refine (least_any _ _ _).mono ?_); rintro e w' ⟨rfl, rfl⟩)) | (go_at_call 39; ((with_reducible refine (does4_any _ _ _).mono ?_); rintro e w' ⟨rfl, rfl⟩)) | (go_at_call 37; ((with_reducible refine (most_any _ _ _).mono ?_); rintro e w' ⟨rfl, rfl⟩)) | (go_at_call 39; ((with_reducible refine (does5_any _ _ _).mono ?_); rintro e w' ⟨rfl, rfl⟩)))
  go_at_call 15
  refine (first_any _ (hT.below (below_drewN hb _))).mono ?_
  rintro e w2 ⟨rfl, hb2⟩
  have hb3 : Below w.heap.size w w2 := (below_drewN hb _).trans (hb2.mono hb.size)
  clear hb2
  go_wp2_with (first | (go_at_call 33; ((with_reducible refine (compare_any _ _ _).mono ?_); rintro e w' ⟨rfl, rfl⟩)) | (go_at_call 43; ((with_reducible refine (refCompare_any _ _ _).mono ?_); rintro e w' ⟨rfl, rfl⟩)))
  go_ret
  exact ⟨rfl, hb3⟩
end Go.Proofs.YtachfcdkokndfaaDoor
