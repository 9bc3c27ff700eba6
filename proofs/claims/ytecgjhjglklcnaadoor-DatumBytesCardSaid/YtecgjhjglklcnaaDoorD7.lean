/-
  The walk of Quote.
-/
import Derived.Test.YtecgjhjglklcnaaDoorD6
import Derived.Test.YtecgjhjglklcnaaDoorK2
namespace Go.Proofs.YtecgjhjglklcnaaDoor
set_option maxRecDepth 100000
open Go.RowKit Go.Shelf Go.Sort
attribute [local go_sem] bs_size bs_get bs_toList
theorem hexI (j : Nat) (h : j < 16) (w : World) : (Instr.index 9 (.string ⟨#[48, 49, 50, 51, 52, 53, 54, 55, 56, 57, 97, 98, 99, 100, 101, 102]⟩) (.int .u8 (j : Int))).run Tryd.prog w = .ok (.int .u8 ((hexC j).toNat : Int)) w := by
  have : j = 0 ∨ j = 1 ∨ j = 2 ∨ j = 3 ∨ j = 4 ∨ j = 5 ∨ j = 6 ∨ j = 7 ∨ j = 8 ∨ j = 9 ∨ j = 10 ∨ j = 11 ∨ j = 12 ∨ j = 13 ∨ j = 14 ∨ j = 15 := by omega
  clear h
  rcases this with rfl | rfl | rfl | rfl | rfl | rfl | rfl | rfl | rfl | rfl | rfl | rfl | rfl | rfl | rfl | rfl <;> rfl
theorem shr4 (n : Nat) (_h : n ≤ 255) : Op.shift .shr .u8 (n : Int) .u64 4 = pure (.int .u8 ((n / 16 : Nat) : Int)) := by
  rw [shift_shr _ _ _ _ (by decide) (by simp [IntKind.bits])]
  congr 2
theorem and15 (n : Nat) (h : n ≤ 255) : bits .and .u8 (n : Int) 15 = ((n % 16 : Nat) : Int) := by
  have e : ∀ m : Fin 256, bits .and .u8 (m.val : Int) 15 = ((m.val % 16 : Nat) : Int) := by decide +kernel
  exact e ⟨n, by omega⟩
set_option maxHeartbeats 1000000 in
theorem quote_any (l : List UInt8) (hl : l.length ≤ 1000000) (w : World) :
    Calls Tryd.prog 26 #[.string (bs l)] w fun e w' => e = .returned (.string (bs (quoteOf l))) ∧ Below w.heap.size w w' := by
  obtain ⟨n, hn⟩ : ∃ n, l.length = n := ⟨_, rfl⟩
  rw [hn] at hl
  have HN := Lib.hid hn
  clear hn
  have hsz : (bs l).size = n := by rw [bs_size, HN.out]
  go_enter Tryd.func26, Tryd.ntmps26
  go_wp2_with fail
  go_loopw [3, 9] (fun v i wr => ∃ k : Nat, k ≤ n ∧ i = .int .i64 k ∧ Own8 wr w.heap.size 5 v (quoteTo l k) ∧ Below w.heap.size w wr) (fun _ i _ => n - (intOf i).toNat)
  case atStart => exact ⟨0, Nat.zero_le _, rfl, Own8.mk (l := [34]) (World.ownsRow_lit w #[.int .u8 34] 1 (Nat.le_refl _) (by decide) rfl) rfl rfl, (Below.refl _ _).alloc (Nat.le_refl _) _⟩
  case round =>
    obtain ⟨k, hk, rfl, hown, hbel⟩ := hrel
    have hbl := hbel.size
    by_cases hlt : k < n
    · have hkl : k < l.length := by rw [HN.out]; exact hlt
      have HQ : Hid (quoteTo l (k + 1) = quoteTo l k ++ quoteC (bAt l k)) := quoteTo_succ l k hkl
      have hql := quoteTo_len l k
      rw [HN.out] at hql
      obtain ⟨c, hc⟩ : ∃ c, bAt l k = c := ⟨_, rfl⟩
      have hcl : c.toNat ≤ 255 := by have := c.toNat_lt; omega
      rw [hc] at HQ
      have HP : Hid (∀ W, Calls Tryd.prog 51 #[.int .u8 (c.toNat : Int)] W fun e w' => e = .returned (.bool (plainZ (c.toNat : Int))) ∧ w' = W) := fun W => plain_any _ (by omega) (by omega) W
      cases hp : plainZ (c.toNat : Int) with
      | true =>
        have HQ2 : Hid (quoteTo l (k + 1) = quoteTo l k ++ [c]) := by rw [HQ.out]; unfold quoteC; rw [hp, if_pos rfl]; exact rfl
        rw [hp] at HP
        clear hp HQ
        go_wp2_with (first | (go_at_call 51; ((with_reducible refine (HP.out _).mono ?_); rintro e w' ⟨rfl, rfl⟩)) | (at_builtin; refine wpList_app S8 rfl (.tmp 17) (.tmp 19) rfl w.heap.size rfl (hown.alloc _) rfl (Rd.one _ _ _) (by simp [Value.oneCell']) (by omega) (by simp [maxLen]; omega) (by simp; omega) ?_))
        intro v' w1 hown' hb1 _
        clear hown
        go_wp2
        go_roundw
        case rel => exact ⟨k + 1, by omega, by go_num, Own8.mk hown' (by rw [HQ2.out, List.length_append]; rfl) (by rw [HQ2.out, B8_append]; rfl), (hbel.alloc hbl _).trans hb1⟩
        case measure => simp [intOf]; omega
      | false =>
        have HQ2 : Hid (quoteTo l (k + 1) = quoteTo l k ++ [92, hexC (c.toNat / 16), hexC (c.toNat % 16)]) := by rw [HQ.out]; unfold quoteC; rw [hp, if_neg (by decide)]; exact rfl
        rw [hp] at HP
        have q1 := shr4 c.toNat hcl
        have q2 := and15 c.toNat hcl
        have q3 := hexI (c.toNat / 16) (by omega)
        have q4 := hexI (c.toNat % 16) (by omega)
        obtain ⟨d1, hd1⟩ : ∃ d, hexC (c.toNat / 16) = d := ⟨_, rfl⟩
        obtain ⟨d2, hd2⟩ : ∃ d, hexC (c.toNat % 16) = d := ⟨_, rfl⟩
        rw [hd1] at HQ2 q3
        rw [hd2] at HQ2 q4
        clear hd1 hd2 hp HQ
        generalize ((c.toNat / 16 : Nat) : Int) = j1 at *
        generalize ((c.toNat % 16 : Nat) : Int) = j2 at *
        go_wp2_with (go_at_call 51; ((with_reducible refine (HP.out _).mono ?_); rintro e w' ⟨rfl, rfl⟩))
        go_region_law ((refine step_app S8 (by rfl) (.tmp 21) (.tmp 28) (by rfl) w.heap.size (by simp [Act.eval]) (hown.alloc _) (by simp [Act.eval]) (Rd.lit _ (B8 [92, d1, d2]) 3 rfl (by decide) _) (B8_one _) (by decide) (by omega) (by simp [maxLen]; omega) (by simp; omega) ?_; intro v' w1 hown' hb1))
        all_goals
          clear hown
          go_wp2
          go_roundw
          case rel => exact ⟨k + 1, by omega, by go_num, Own8.mk hown' (by rw [HQ2.out, List.length_append]; rfl) (by rw [HQ2.out, B8_append]), (hbel.alloc hbl _).drew.trans hb1⟩
          case measure => simp [intOf]; omega
    · have hkn : k = n := by omega
      subst hkn
      have HQ : Hid (quoteTo l k ++ [34] = quoteOf l) := quoteTo_all l k HN.out.symm
      have hql := quoteTo_len l k
      rw [HN.out] at hql
      go_wp2_with (at_builtin; refine wpList_app S8 rfl (.tmp 31) (.tmp 32) rfl w.heap.size rfl (hown.alloc _) rfl (Rd.one _ _ _) (by simp [Value.oneCell']) (by omega) (by simp [maxLen]; omega) (by simp; omega) ?_)
      intro v' w1 hown' hb1 _
      clear hown
      have hown2 : Own8 w1 w.heap.size 5 v' (quoteOf l) := Own8.mk hown' (by rw [← HQ.out, List.length_append]; rfl) (by rw [← HQ.out, B8_append]; rfl)
      obtain ⟨a, cap, rfl, hr⟩ := hown2.rd
      have hcv := run_toStr (P := Tryd.prog) hr 44 5 9 Tryd.underlying44 Tryd.underlying5 Tryd.underlying9
      clear hown' hown2
      go_wp2
      go_ret
      exact ⟨rfl, (hbel.alloc hbl _).trans hb1⟩
end Go.Proofs.YtecgjhjglklcnaaDoor
