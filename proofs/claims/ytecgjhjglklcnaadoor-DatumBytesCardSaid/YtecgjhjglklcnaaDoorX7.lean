/-
  The walk of the reference's Put; bytes that are the same.
-/
import Derived.Test.YtecgjhjglklcnaaDoorX6
namespace Go.Proofs.YtecgjhjglklcnaaDoor
set_option maxRecDepth 100000
open Go.RowKit Go.Shelf Go.Sort
attribute [local go_sem] bs_size bs_get bs_toList frombits tobits run_store_float
set_option maxHeartbeats 2000000 in
theorem refPut_any (k : Int) (x : UInt64) (s : List UInt8) (hs : s.length ≤ 2000) (w : World) :
    Calls Tryd.prog 45 #[VA k x s] w fun e w' => ∃ v, e = .returned v ∧ Own8 w' w.heap.size 5 v (putB k x s) ∧ Below w.heap.size w w' := by
  unfold VA
  have HM : Hid (∀ W, Calls Tryd.prog 21 #[.agg #[.int .i64 k, .float .f64 (fb x), .string (bs s)]] W fun e w' => e = .returned (.bool (mayB k x s)) ∧ Below W.heap.size W w') := fun W => refMay_any k x s W
  have HV : Hid (putB k x s = if mayB k x s then intB k ++ (if k = 1 then le8 8 (canon x) else if k = 2 then intB s.length ++ s else []) else intB 0) := rfl
  obtain ⟨c0, c1, c2⟩ := vat w k x s 24
  have HB0 : Hid (Below w.heap.size w (w.alloc (.cells #[.int .i64 k, .float .f64 (fb x), .string (bs s)] 24))) := (Below.refl _ _).alloc (Nat.le_refl _) _
  cases hm : mayB k x s with
  | false =>
    have HR : Hid (putB k x s = [0]) := by rw [HV.out, hm]; show intB 0 = [0]; unfold intB; rw [encU_small (by decide)]; rfl
    rw [hm] at HM
    rw [HR.out]
    clear hm HV HR
    go_enter Tryd.func45, Tryd.ntmps45
    go_wp2_with fail
    go_at_call 21
    refine (HM.out _).mono ?_
    rintro e w1 ⟨rfl, hb1⟩
    have HF1 := Lib.hid (Below.trans HB0.out (hb1.mono (by simp)))
    have hz := HF1.out.size
    clear c0 c1 c2 hb1
    go_wp2
    go_ret
    exact ⟨_, rfl, Own8.mono (Own8.mk (l := [0]) (World.ownsRow_lit w1 #[.int .u8 0] 1 (Nat.le_refl _) (by decide) rfl) rfl rfl) hz, HF1.out.alloc hz _⟩
  | true =>
    rw [hm] at HM
    have hk := may_kinds hm
    have HV2 := Lib.hid (HV.out.trans (if_pos hm))
    have hi0 : -9223372036854775808 ≤ k := by omega
    have hi1 : k ≤ 9223372036854775807 := by omega
    have HI : Hid (∀ W, Calls Tryd.prog 73 #[.int .i64 k] W fun e w' => ∃ v, e = .returned v ∧ Own8 w' W.heap.size 5 v (intB k) ∧ Below W.heap.size W w') := fun W => rInt_any k hi0 hi1 W
    have HZ : Hid ((intB k).length ≤ 10) := encU_len64 _ (zz_lt hi0 hi1)
    clear hm HV hi0 hi1
    rcases hk with rfl | rfl | rfl
    · have HR : Hid (putB 0 x s = intB 0) := HV2.out.trans (by rw [if_neg (by decide), if_neg (by decide), List.append_nil])
      rw [HR.out]
      clear HV2 HR
      go_enter Tryd.func45, Tryd.ntmps45
      go_wp2_with fail
      go_at_call 21
      refine (HM.out _).mono ?_
      rintro e w1 ⟨rfl, hb1⟩
      have e0 := keep1 c0 hb1
      have HF1 := Lib.hid (Below.trans HB0.out (hb1.mono (by simp)))
      clear c0 c1 c2 hb1
      go_wp2_with fail
      go_at_call 73
      refine (HI.out _).mono ?_
      rintro e w2 ⟨v2, rfl, hown, hb2⟩
      have g0 := keep1 e0 hb2
      have HO := Lib.hid hown
      have HF2 := Lib.hid (HF1.out.trans (hb2.mono HF1.out.size))
      have hz := HF1.out.size
      clear e0 hb2 hown
      go_wp2_with fail
      go_ret
      exact ⟨_, rfl, Own8.mono HO.out hz, HF2.out⟩
    · have HR : Hid (putB 1 x s = intB 1 ++ le8 8 (canon x)) := HV2.out.trans (by rw [if_pos rfl])
      rw [HR.out]
      clear HV2 HR
      go_enter Tryd.func45, Tryd.ntmps45
      go_wp2_with fail
      go_at_call 21
      refine (HM.out _).mono ?_
      rintro e w1 ⟨rfl, hb1⟩
      have e0 := keep1 c0 hb1
      have e1 := keep1 c1 hb1
      have HF1 := Lib.hid (Below.trans HB0.out (hb1.mono (by simp)))
      clear c0 c1 c2 hb1
      have hlt0 := Lib.hid (World.block_lt_of_cell? _ _ e0)
      go_wp2_with fail
      go_at_call 73
      refine (HI.out _).mono ?_
      rintro e w2 ⟨v2, rfl, hown, hb2⟩
      have g0 := keep1 e0 hb2
      have g1 := keep1 e1 hb2
      have HF2 := Lib.hid (HF1.out.trans (hb2.mono HF1.out.size))
      have hz := HF1.out.size
      have HO := Lib.hid hown
      have hs2 := hb2.size
      clear e0 e1 hb2 hown
      go_wp2_with fail
      go_at_call 74
      refine (rFloat_any x _).mono ?_
      rintro e w3 ⟨v3, rfl, hown3, hb3⟩
      have f0 := keep1 g0 hb3
      have HO3 := Lib.hid (Own8.below HO.out (Nat.le_refl _) hb3)
      have HF3 := Lib.hid (HF2.out.trans (hb3.mono HF2.out.size))
      obtain ⟨a3, cap3, rfl, hr3⟩ := hown3.rd
      have HRD := Lib.hid hr3
      have hl3 := le8_len 8 (canon x)
      have hz3 : w1.heap.size ≤ w3.heap.size := Nat.le_trans hs2 hb3.size
      have hzz := HZ.out
      clear g0 g1 hb3 hown3 hr3
      go_wp2_with (at_builtin; refine wpList_app S8 rfl (.tmp 14) (.tmp 17) rfl w1.heap.size rfl HO3.out rfl HRD.out.2 (B8_one _) (by omega) (by simp [maxLen]; omega) hz3 ?_)
      intro v4 w4 hown4 hb4 _
      have f1 : w4.cell? ⟨w.heap.size, 0, none⟩ = some (.int .i64 1) := by
        rw [hb4.cell (p := ⟨w.heap.size, 0, none⟩) hlt0.out]; exact f0
      have HO4 := Lib.hid (Own8.mk (l := intB 1 ++ le8 8 (canon x)) hown4 (by rw [List.length_append, hl3]) (by rw [B8_append]))
      have HF4 := Lib.hid (HF3.out.trans (hb4.mono hz))
      clear f0 hown4 hb4
      go_wp2_with fail
      go_ret
      exact ⟨_, rfl, Own8.mono HO4.out hz, HF4.out⟩
    · have HR : Hid (putB 2 x s = intB 2 ++ (intB s.length ++ s)) := HV2.out.trans (by rw [if_neg (by decide), if_pos rfl])
      have hl3 : (intB s.length ++ s).length ≤ 2010 := by have := encU_len64 _ (zz_lt (n := (s.length : Int)) (by omega) (by omega)); rw [List.length_append]; change (intB s.length).length ≤ 10 at this; omega
      have HT : Hid (∀ W, Calls Tryd.prog 75 #[.string (bs s)] W fun e w' => ∃ v, e = .returned v ∧ Own8 w' W.heap.size 5 v (intB s.length ++ s) ∧ Below W.heap.size W w') := fun W => rText_any s (by omega) W
      rw [HR.out]
      clear HV2 HR
      generalize intB s.length ++ s = L at *
      go_enter Tryd.func45, Tryd.ntmps45
      go_wp2_with fail
      go_at_call 21
      refine (HM.out _).mono ?_
      rintro e w1 ⟨rfl, hb1⟩
      have e0 := keep1 c0 hb1
      have e2 := keep1 c2 hb1
      have HF1 := Lib.hid (Below.trans HB0.out (hb1.mono (by simp)))
      clear c0 c1 c2 hb1
      have hlt0 := Lib.hid (World.block_lt_of_cell? _ _ e0)
      go_wp2_with fail
      go_at_call 73
      refine (HI.out _).mono ?_
      rintro e w2 ⟨v2, rfl, hown, hb2⟩
      have g0 := keep1 e0 hb2
      have g2 := keep1 e2 hb2
      have HF2 := Lib.hid (HF1.out.trans (hb2.mono HF1.out.size))
      have hz := HF1.out.size
      have HO := Lib.hid hown
      have hs2 := hb2.size
      clear e0 e2 hb2 hown
      go_wp2_with fail
      go_at_call 75
      refine (HT.out _).mono ?_
      rintro e w3 ⟨v3, rfl, hown3, hb3⟩
      have f0 := keep1 g0 hb3
      have HO3 := Lib.hid (Own8.below HO.out (Nat.le_refl _) hb3)
      have HF3 := Lib.hid (HF2.out.trans (hb3.mono HF2.out.size))
      obtain ⟨a3, cap3, rfl, hr3⟩ := hown3.rd
      have HRD := Lib.hid hr3
      have hz3 : w1.heap.size ≤ w3.heap.size := Nat.le_trans hs2 hb3.size
      have hzz := HZ.out
      clear g0 g2 hb3 hown3 hr3
      go_wp2_with (at_builtin; refine wpList_app S8 rfl (.tmp 22) (.tmp 25) rfl w1.heap.size rfl HO3.out rfl HRD.out.2 (B8_one _) (by omega) (by simp [maxLen]; omega) hz3 ?_)
      intro v4 w4 hown4 hb4 _
      have f1 : w4.cell? ⟨w.heap.size, 0, none⟩ = some (.int .i64 2) := by
        rw [hb4.cell (p := ⟨w.heap.size, 0, none⟩) hlt0.out]; exact f0
      have HO4 := Lib.hid (Own8.mk (l := intB 2 ++ L) hown4 (by rw [List.length_append]) (by rw [B8_append]))
      have HF4 := Lib.hid (HF3.out.trans (hb4.mono hz))
      clear f0 hown4 hb4
      go_wp2_with fail
      go_ret
      exact ⟨_, rfl, Own8.mono HO4.out hz, HF4.out⟩
end Go.Proofs.YtecgjhjglklcnaaDoor
