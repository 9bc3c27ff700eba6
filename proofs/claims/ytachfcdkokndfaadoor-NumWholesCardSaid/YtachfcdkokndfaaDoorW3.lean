/-
  The walks of Trunc, Whole and the reference's Whole; the law NumWholes.
-/
import Derived.Test.YtachfcdkokndfaaDoorW2
namespace Go.Proofs.YtachfcdkokndfaaDoor
open Go.RowKit Go.Shelf Go.Sort
theorem arch0 (b : Nat) (w : World) : (callFunc 66 #[.float .f64 b]).run Tryd.prog w = ((Extern.MathFloor.toIntegral "math.archTrunc" .zero #[.float .f64 b]).run Tryd.prog w).andThen (fun v w' => .ok (.value v) w') :=
  run_callFunc_extern (e := Extern.MathFloor.toIntegral "math.archTrunc" .zero) Tryd.func66 (by kernel_rfl) (by kernel_rfl) (by kernel_rfl) (by kernel_rfl) _ w
theorem enc_dbl (d : Ieee.Datum) : FloatKind.f64.encode d = Ieee.double.write d := rfl
theorem int_num (way : Ieee.Toward) (s : Bool) (m : Nat) (e : Int) : (Ieee.Datum.number s m e).integral way = .number s (way.cut s (m <<< e.toNat) (-e).toNat) 0 := rfl
theorem write_num (s : Bool) (m : Nat) (e : Int) : Ieee.double.write (.number s m e) = Ieee.double.nearest s m e := rfl
theorem encode_trunc (s : Bool) (a : Nat) : FloatKind.f64.encode ((Ieee.Datum.number s (mN a) (eN a)).integral .zero) = if s then 9223372036854775808 + trN a else trN a := by
  rw [enc_dbl, int_num, write_num, cut_zero]
  have h : mN a <<< (eN a).toNat / 2 ^ (-eN a).toNat = intN a := by unfold intN; exact Eq.refl _
  rw [h]
  cases s with
  | true => rw [nearest_neg, if_pos rfl]; unfold trN; exact Eq.refl _
  | false => rw [if_neg (by decide)]; unfold trN; exact Eq.refl _
theorem archTrunc_run (x : UInt64) (h : magN x ≤ 4845873199050653696) (w : World) : (callFunc 66 #[.float .f64 (fb x)]).run Tryd.prog w = .ok (.value (.float .f64 (fb (truncW x)))) w := by
  have hx := lt64 x
  have hmx : magN x = x.toNat % 9223372036854775808 := rfl
  have hr := read_fin x.toNat (by omega)
  have hd : FloatKind.f64.decode (fb x) = .number (x.toNat / 9223372036854775808 % 2 == 1) (mN (magN x)) (eN (magN x)) := hr
  have he := encode_trunc (x.toNat / 9223372036854775808 % 2 == 1) (magN x)
  have ht : fb (truncW x) = if (x.toNat / 9223372036854775808 % 2 == 1) = true then 9223372036854775808 + trN (magN x) else trN (magN x) := by
    unfold fb; rw [truncW_nat x h]
    have t1 : (x.toNat / 9223372036854775808 % 2 == 1) = decide (9223372036854775808 ≤ x.toNat) := by
      rw [Bool.eq_iff_iff, beq_iff_eq, decide_eq_true_iff]; omega
    rw [t1]; simp
  rw [arch0, ht, ← he]
  have hk : (Extern.MathFloor.toIntegral "math.archTrunc" .zero #[.float .f64 (fb x)]).run Tryd.prog w = .ok (.float .f64 (FloatKind.f64.encode ((Ieee.Datum.number (x.toNat / 9223372036854775808 % 2 == 1) (mN (magN x)) (eN (magN x))).integral .zero))) w := by
    show Sem.run Tryd.prog (match FloatKind.f64.decode (fb x) with | .nan s t => _ | d => _) w = _
    rw [hd]; rfl
  rw [hk]; rfl
attribute [local go_sem] frombits tobits
set_option maxHeartbeats 400000 in
theorem Trunc_any (x : UInt64) (h : magN x ≤ 4845873199050653696) (w : World) : Calls Tryd.prog 60 #[.float .f64 (fb x)] w fun e w' => e = .returned (.float .f64 (fb (truncW x))) ∧ w' = w := by
  have H := fun W => archTrunc_run x h W
  clear h
  go_enter Tryd.func60, Tryd.ntmps60
  go_wp2_with fail
  go_ret
  exact ⟨rfl, rfl⟩
/-- What Whole tells. -/
def wholeV (x : UInt64) : Int × Bool := if inB x && wholeN (magN x) then (intX x, true) else (0, false)
theorem conv_x (x : UInt64) (h : magN x ≤ 4845873199050653696) (w : World) : (convert 22 3 (.float .f64 (fb x))).run Tryd.prog w = .ok (.int .i64 (intX x)) w :=
  run_convert_float_int w 22 3 .f64 .i64 _ _ (by rw [Tryd.underlying22]; rfl) Tryd.underlying3 (toInt_x x h)
set_option maxHeartbeats 400000 in
theorem whole_any (x : UInt64) (w : World) : Calls Tryd.prog 44 #[.float .f64 (fb x)] w fun e w' => e = .returned (.tuple #[.int .i64 (wholeV x).1, .bool (wholeV x).2]) ∧ w' = w := by
  have hb := bounds_x x
  have HV : Hid (wholeV x = if inB x && wholeN (magN x) then (intX x, true) else (0, false)) := rfl
  cases g1 : (FloatKind.f64.format.order (fb x) 14069245235905429504 == some .gt || FloatKind.f64.format.order (fb x) 14069245235905429504 == some .eq) with
  | false =>
    have HV2 : Hid (wholeV x = (0, false)) := by rw [HV.out, ← hb, g1]; exact rfl
    clear hb HV
    go_enter Tryd.func44, Tryd.ntmps44
    go_wp2_with fail
    go_ret2
    exact ⟨by rw [HV2.out]; rfl, rfl⟩
  | true =>
  cases g2 : (FloatKind.f64.format.order (fb x) 4845873199050653696 == some .lt || FloatKind.f64.format.order (fb x) 4845873199050653696 == some .eq) with
  | false =>
    have HV2 : Hid (wholeV x = (0, false)) := by rw [HV.out, ← hb, g1, g2]; exact rfl
    clear hb HV
    go_enter Tryd.func44, Tryd.ntmps44
    go_wp2_with fail
    go_ret2
    exact ⟨by rw [HV2.out]; rfl, rfl⟩
  | true =>
  have hi : inB x = true := by rw [← hb, g1, g2]; rfl
  have hm : magN x ≤ 4845873199050653696 := of_decide_eq_true hi
  have hne := trunc_ne x hm
  have HT : Hid (∀ W, Calls Tryd.prog 60 #[.float .f64 (fb x)] W fun e w' => e = .returned (.float .f64 (fb (truncW x))) ∧ w' = W) := fun W => Trunc_any x hm W
  have hc := fun W => conv_x x hm W
  cases hw : wholeN (magN x) with
  | false =>
    have HV2 : Hid (wholeV x = (0, false)) := by rw [HV.out, hi, hw]; exact rfl
    rw [hw] at hne
    clear hb HV hi hm hw
    go_enter Tryd.func44, Tryd.ntmps44
    go_wp2_with (go_at_call 60; ((with_reducible refine (HT.out _).mono ?_); rintro e w' ⟨rfl, rfl⟩))
    go_ret2
    exact ⟨by rw [HV2.out]; rfl, rfl⟩
  | true =>
    have HV2 : Hid (wholeV x = (intX x, true)) := by rw [HV.out, hi, hw]; exact rfl
    rw [hw] at hne
    clear hb HV hi hm hw
    go_enter Tryd.func44, Tryd.ntmps44
    go_wp2_with (go_at_call 60; ((with_reducible refine (HT.out _).mono ?_); rintro e w' ⟨rfl, rfl⟩))
    go_ret2
    exact ⟨by rw [HV2.out]; rfl, rfl⟩
set_option maxHeartbeats 400000 in
theorem refWhole_any (x : UInt64) (w : World) : Calls Tryd.prog 45 #[.float .f64 (fb x)] w fun e w' => e = .returned (.tuple #[.int .i64 (wholeV x).1, .bool (wholeV x).2]) ∧ w' = w := by
  have hb := bounds_x x
  have HV : Hid (wholeV x = if inB x && wholeN (magN x) then (intX x, true) else (0, false)) := rfl
  cases g1 : (FloatKind.f64.format.order (fb x) 14069245235905429504 == some .gt || FloatKind.f64.format.order (fb x) 14069245235905429504 == some .eq) with
  | false =>
    have HV2 : Hid (wholeV x = (0, false)) := by rw [HV.out, ← hb, g1]; exact rfl
    clear hb HV
    go_enter Tryd.func45, Tryd.ntmps45
    go_wp2_with fail
    go_ret2
    exact ⟨by rw [HV2.out]; rfl, rfl⟩
  | true =>
  cases g2 : (FloatKind.f64.format.order (fb x) 4845873199050653696 == some .lt || FloatKind.f64.format.order (fb x) 4845873199050653696 == some .eq) with
  | false =>
    have HV2 : Hid (wholeV x = (0, false)) := by rw [HV.out, ← hb, g1, g2]; exact rfl
    clear hb HV
    go_enter Tryd.func45, Tryd.ntmps45
    go_wp2_with fail
    go_ret2
    exact ⟨by rw [HV2.out]; rfl, rfl⟩
  | true =>
  have hi : inB x = true := by rw [← hb, g1, g2]; rfl
  have hm : magN x ≤ 4845873199050653696 := of_decide_eq_true hi
  have hne := back_ne x hm
  have hc := fun W => conv_x x hm W
  have hfb := backX_fb x
  cases hw : wholeN (magN x) with
  | false =>
    have HV2 : Hid (wholeV x = (0, false)) := by rw [HV.out, hi, hw]; exact rfl
    rw [hw] at hne
    clear hb HV hi hm hw
    generalize intX x = n at *
    go_enter Tryd.func45, Tryd.ntmps45
    go_wp2_with fail
    go_ret2
    exact ⟨by rw [HV2.out]; rfl, rfl⟩
  | true =>
    have HV2 : Hid (wholeV x = (intX x, true)) := by rw [HV.out, hi, hw]; exact rfl
    rw [hw] at hne
    clear hb HV hi hm hw
    generalize intX x = n at *
    go_enter Tryd.func45, Tryd.ntmps45
    go_wp2_with fail
    go_ret2
    exact ⟨by rw [HV2.out]; rfl, rfl⟩
set_option maxHeartbeats 400000 in
theorem numWholes_walk (x : UInt64) (w : World) (hT : Laid w) : Calls Tryd.prog 13 #[.float .f64 (fb x)] w fun e w' => e = .returned (.bool true) ∧ Below w.heap.size w w' := by
  have H1 : Hid (∀ W, Calls Tryd.prog 44 #[.float .f64 (fb x)] W fun e w' => e = .returned (.tuple #[.int .i64 (wholeV x).1, .bool (wholeV x).2]) ∧ w' = W) := fun W => whole_any x W
  have H2 : Hid (∀ W, Calls Tryd.prog 45 #[.float .f64 (fb x)] W fun e w' => e = .returned (.tuple #[.int .i64 (wholeV x).1, .bool (wholeV x).2]) ∧ w' = W) := fun W => refWhole_any x W
  generalize wholeV x = q at *
  obtain ⟨n, b⟩ := q
  cases b
  all_goals
    go_enter Tryd.func13, Tryd.ntmps13
    go_wp2_with fail
    go_at_call 15
    refine (first_any _ hT).mono ?_
    rintro e w1 ⟨rfl, hb⟩
    go_wp2_with (first | (go_at_call 44; ((with_reducible refine (H1.out _).mono ?_); rintro e w' ⟨rfl, rfl⟩)) | (go_at_call 45; ((with_reducible refine (H2.out _).mono ?_); rintro e w' ⟨rfl, rfl⟩)))
    go_at_call 15
    refine (first_any _ (hT.below hb)).mono ?_
    rintro e w2 ⟨rfl, hb2⟩
    go_wp2
    go_ret
    exact ⟨rfl, hb.trans (hb2.mono hb.size)⟩
end Go.Proofs.YtachfcdkokndfaaDoor
