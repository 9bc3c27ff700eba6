/-
  The chapter's examples of marks.
-/
import Derived.Test.YtkinhilkmjfjhaaGreatQ8
import Derived.Test.YtkinhilkmjfjhaaGreatEY
namespace Go.Proofs.YtkinhilkmjfjhaaGreat
open Go.RowKit Go.Maps Go.Sort
set_option maxRecDepth 100000
attribute [local go_sem] bs_size bs_toList

theorem Rd.two2 (w : World) (x y x' y' : Value) (e : TypeId) : Rd (w.alloc (.cells #[x, y, x', y'] e)) (some ⟨w.heap.size, 0, none⟩) 2 2 2 [x, y, x', y'] := by
  refine ⟨Nat.le_refl _, by decide, (fun h => by cases h), rfl, fun j u hj => ⟨w.heap.size, 0, rfl, ?_⟩⟩
  rw [Nat.zero_add, cell_of_row _ w.heap.size j #[x, y, x', y'] e (0, 0) (heap_alloc_new w _)]
  simpa using hj
def mkA : Mk := ⟨0, 0, 0, [(1, 5)]⟩
def mkB : Mk := ⟨0, 0, 0, [(2, 1), (1, 1)]⟩
theorem mayA : mayM mkA = true := by decide
theorem mayB' : mayM mkB = false := by decide
theorem load_newS : loadM newS = (mk0, 8) := rfl
set_option maxHeartbeats 4000000 in
theorem mfirst_any (w : World) : Calls Tryz.prog 4 #[] w (TrueEnd w) := by
  go_enter Tryz.func4, Tryz.ntmps4
  go_wp2_with fail
  go_at_call 6
  refine (new_any 0 (Int.le_refl _) w).mono ?_
  rintro e w1 ⟨d, rfl, hb1, hd1⟩
  have HB1 := Lib.hid hb1
  have HD1 := Lib.hid hd1
  clear hb1 hd1
  go_wp2_with fail
  go_at_call 14
  refine (mload_any d _ 0 newS w1 HD1.out).mono ?_
  rintro e w2 ⟨v2, rfl, ho2, hb2⟩
  rw [load_newS] at ho2 ⊢
  have HB2 := Lib.hid hb2
  obtain ⟨a2, c2, rfl, hr2⟩ := ho2.rd
  clear ho2 hr2 hb2
  simp only [mk0]
  go_wp2_with fail
  go_at_call 7
  obtain ⟨X, hX⟩ : ∃ X, w2.alloc (.cells #[.int .i64 0, .int .i64 0, .int .i64 0, .slice a2 0 c2] 35) = X := ⟨_, rfl⟩
  have hbX : Below w2.heap.size w2 X := by rw [← hX]; exact (Below.refl _ _).alloc (Nat.le_refl _) _
  have hsX : X.heap.size = w2.heap.size + 1 := by rw [← hX]; simp
  have hrd : RdT (X.alloc (.cells #[.int .i64 1, .int .i64 5] 60)) (some ⟨w2.heap.size + 1, 0, none⟩) 1 mkA.ts := by rw [← hsX]; exact Rd.one2 X _ _ _
  have hbY : Below w2.heap.size w2 (X.alloc (.cells #[.int .i64 1, .int .i64 5] 60)) := hbX.alloc hbX.size _
  obtain ⟨Y, hY⟩ : ∃ Y, X.alloc (.cells #[.int .i64 1, .int .i64 5] 60) = Y := ⟨_, rfl⟩
  rw [hX, hY]
  rw [hY] at hrd hbY
  have hb2' := HB2.out.size
  have hne : ∀ b, blk (some ⟨w2.heap.size + 1, 0, none⟩) = some b → ¬ (w.heap.size ≤ b ∧ b < w1.heap.size) := fun b hb e => by
    have h1 : w2.heap.size + 1 = b := by simpa [blk] using hb
    omega
  have HDY := Lib.hid ((HD1.out.below HB2.out).below hbY)
  refine (save_any d _ 0 (by decide) newS mkA (some ⟨w2.heap.size + 1, 0, none⟩) 1 Y HDY.out hrd (fun _ b hb e => hne b hb e)).mono ?_
  rintro e w5 ⟨rfl, hd5⟩
  obtain ⟨hs0, hl0⟩ := saved_new mayA
  rw [hs0]
  obtain ⟨s1, hs1⟩ : ∃ s1, (saveS newS mkA).1 = s1 := ⟨_, rfl⟩
  rw [hs1] at hl0 hd5
  have HL0 := Lib.hid hl0
  have HD5 := Lib.hid hd5
  have HB5 : Hid (Below w.heap.size w w5) := (HB1.out.trans ((HB2.out.trans (hbY.mono HB2.out.size)).mono HB1.out.size)).trans (hd5.2.below (Nat.le_trans HB1.out.size (Nat.le_trans HB2.out.size hbY.size)) fun k hk e => by omega)
  clear hX hbX hsX hrd hbY hY hb2' hs0 hs1 hl0 hd5 hne HB1 HB2 HD1 HDY
  go_wp2_with fail
  go_at_call 14
  refine (mload_any d _ _ s1 w5 HD5.out.1).mono ?_
  rintro e w6 ⟨v6, rfl, ho6, hb6⟩
  rw [HL0.out] at ho6 ⊢
  obtain ⟨a6, c6, rfl, hr6⟩ := ho6.rd
  have HB6 := Lib.hid (next_below HB5.out hb6)
  obtain ⟨b, off, rfl, hbl, q0, q1⟩ := hr6.at (k := 0) (by decide)
  simp only [mkA, List.length_singleton, Nat.zero_mul, Nat.add_zero] at q0 q1 ⊢
  have q1 : w6.cell? ⟨b, off + 1, none⟩ = some (.int .i64 5) := q1
  have p1 := cell_alloc_keep (o := .cells #[.int .i64 0, .int .i64 0, .int .i64 0, .slice (some ⟨b, off, none⟩) 1 c6] 35) q1
  clear ho6 hr6 hb6 hbl q0
  go_wp2_with fail
  go_at_call 10
  obtain ⟨X, hX⟩ : ∃ X, w6.alloc (.cells #[.int .i64 0, .int .i64 0, .int .i64 0, .slice (some ⟨b, off, none⟩) 1 c6] 35) = X := ⟨_, rfl⟩
  have hbX : Below w6.heap.size w6 X := by rw [← hX]; exact (Below.refl _ _).alloc (Nat.le_refl _) _
  have hsX : X.heap.size = w6.heap.size + 1 := by rw [← hX]; simp
  have hrd : RdT (X.alloc (.cells #[.int .i64 2, .int .i64 1, .int .i64 1, .int .i64 1] 60)) (some ⟨w6.heap.size + 1, 0, none⟩) 2 mkB.ts := by rw [← hsX]; exact Rd.two2 X _ _ _ _ _
  have hbY : Below w6.heap.size w6 (X.alloc (.cells #[.int .i64 2, .int .i64 1, .int .i64 1, .int .i64 1] 60)) := hbX.alloc hbX.size _
  obtain ⟨Y, hY⟩ : ∃ Y, X.alloc (.cells #[.int .i64 2, .int .i64 1, .int .i64 1, .int .i64 1] 60) = Y := ⟨_, rfl⟩
  rw [hX, hY]
  rw [hY] at hrd hbY
  refine (may_any mkB (some ⟨w6.heap.size + 1, 0, none⟩) 2 Y hrd).mono ?_
  rintro e w7 ⟨rfl, hb7⟩
  rw [mayB']
  have HB7 := Lib.hid (next_below (next_below HB6.out hbY) hb7)
  clear hX hbX hsX hrd hbY hY hb7 p1 q1
  go_wp2_with fail
  go_ret
  exact ⟨rfl, HB7.out⟩
end Go.Proofs.YtkinhilkmjfjhaaGreat
