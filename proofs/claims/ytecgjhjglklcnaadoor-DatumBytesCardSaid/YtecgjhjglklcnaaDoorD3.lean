/-
  The walks of Plus, Compare, Same of values, and the reference's. Written by a program (d3gen.py).
-/
import Derived.Test.YtecgjhjglklcnaaDoorD2
namespace Go.Proofs.YtecgjhjglklcnaaDoor
set_option maxRecDepth 100000
open Go.RowKit Go.Shelf Go.Sort
attribute [local go_sem] bs_size bs_get bs_toList frombits tobits run_store_float

/-- What Plus tells. -/
def plusV (ka : Int) (xa : UInt64) (sa : List UInt8) (kb : Int) (xb : UInt64) (sb : List UInt8) : Value :=
  if mayB ka xa sa && mayB kb xb sb && !(ka == 2) && !(kb == 2) then .tuple #[VA 1 (canon (opOf .add xa xb)) [], .int .i64 0] else .tuple #[VA 0 0 [], .int .i64 23]
set_option maxHeartbeats 1000000 in
theorem plus_any (ka : Int) (xa : UInt64) (sa : List UInt8) (kb : Int) (xb : UInt64) (sb : List UInt8) (w : World) :
    Calls Tryd.prog 30 #[VA ka xa sa, VA kb xb sb] w fun e w' => e = .returned (plusV ka xa sa kb xb sb) ∧ Below w.heap.size w w' := by
  have HV : Hid (plusV ka xa sa kb xb sb = if mayB ka xa sa && mayB kb xb sb && !(ka == 2) && !(kb == 2) then .tuple #[VA 1 (canon (opOf .add xa xb)) [], .int .i64 0] else .tuple #[VA 0 0 [], .int .i64 23]) := rfl
  have HA : Hid (∀ W, Calls Tryd.prog 20 #[.agg #[.int .i64 ka, .float .f64 (fb xa), .string (bs sa)]] W fun e w' => e = .returned (.bool (mayB ka xa sa)) ∧ Below W.heap.size W w') := fun W => may_any ka xa sa W
  have HB : Hid (∀ W, Calls Tryd.prog 20 #[.agg #[.int .i64 kb, .float .f64 (fb xb), .string (bs sb)]] W fun e w' => e = .returned (.bool (mayB kb xb sb)) ∧ Below W.heap.size W w') := fun W => may_any kb xb sb W
  unfold VA
  cases ha : mayB ka xa sa with
  | false =>
    rw [ha] at HV HA
    clear ha HB
    go_enter Tryd.func30, Tryd.ntmps30
    go_wp2_with fail
    go_at_call 20
    refine (HA.out _).mono ?_
    rintro e w1 ⟨rfl, hb1⟩
    obtain ⟨hbw, Z1⟩ := below3 hb1
    obtain ⟨z0, z1, z2⟩ := Z1
    obtain ⟨hc, hf⟩ := bcell hb1
    clear hb1
    go_wp2_with fail
    exact bodyPost_ret (v := .tuple #[VA 0 0 [], .int .i64 23]) (by simp [results, Tryd.results30, go_sem, VA, hc] <;> first | rfl | exact ⟨rfl, rfl⟩ | skip) rfl ⟨by rw [HV.out]; exact rfl, (((hbw.setCell (by first | (simp; done) | (simp; omega)) _).setCell (by first | (simp; done) | (simp; omega)) _).setCell (by first | (simp; done) | (simp; omega)) _)⟩
  | true =>
  rw [ha] at HV HA
  clear ha
  cases hb : mayB kb xb sb with
  | false =>
    rw [hb] at HV HB
    clear hb
    go_enter Tryd.func30, Tryd.ntmps30
    go_wp2_with fail
    go_at_call 20
    refine (HA.out _).mono ?_
    rintro e w1 ⟨rfl, hb1⟩
    obtain ⟨hbw, Z1⟩ := below3 hb1
    obtain ⟨z0, z1, z2⟩ := Z1
    obtain ⟨hc, hf⟩ := bcell hb1
    clear hb1
    go_wp2_with fail
    go_at_call 20
    refine (HB.out _).mono ?_
    rintro e w2 ⟨rfl, hb2⟩
    have hbw2 := hbw.trans (hb2.mono (by omega))
    obtain ⟨y0, y1, y2⟩ := later3 ⟨z0, z1, z2⟩ hb2
    obtain ⟨hc2, hf2⟩ := bcell hb2
    clear hb2
    go_wp2_with fail
    exact bodyPost_ret (v := .tuple #[VA 0 0 [], .int .i64 23]) (by simp [results, Tryd.results30, go_sem, VA, hc2, hc, z2] <;> first | rfl | exact ⟨rfl, rfl⟩ | skip) rfl ⟨by rw [HV.out]; exact rfl, (((hbw2.setCell (by first | (simp; done) | (simp; omega)) _).setCell (by first | (simp; done) | (simp; omega)) _).setCell (by first | (simp; done) | (simp; omega)) _)⟩
  | true =>
  rw [hb] at HV HB
  clear hb
  cases h2a : (ka == 2) with
  | true =>
    rw [h2a] at HV
    go_enter Tryd.func30, Tryd.ntmps30
    go_wp2_with fail
    go_at_call 20
    refine (HA.out _).mono ?_
    rintro e w1 ⟨rfl, hb1⟩
    obtain ⟨hbw, Z1⟩ := below3 hb1
    obtain ⟨z0, z1, z2⟩ := Z1
    obtain ⟨hc, hf⟩ := bcell hb1
    clear hb1
    go_wp2_with fail
    go_at_call 20
    refine (HB.out _).mono ?_
    rintro e w2 ⟨rfl, hb2⟩
    have hbw2 := hbw.trans (hb2.mono (by omega))
    obtain ⟨y0, y1, y2⟩ := later3 ⟨z0, z1, z2⟩ hb2
    obtain ⟨hc2, hf2⟩ := bcell hb2
    clear hb2
    go_wp2_with fail
    exact bodyPost_ret (v := .tuple #[VA 0 0 [], .int .i64 23]) (by simp [results, Tryd.results30, go_sem, VA, hc2, hc, z2] <;> first | rfl | exact ⟨rfl, rfl⟩ | skip) rfl ⟨by rw [HV.out]; exact rfl, (((hbw2.setCell (by first | (simp; done) | (simp; omega)) _).setCell (by first | (simp; done) | (simp; omega)) _).setCell (by first | (simp; done) | (simp; omega)) _)⟩
  | false =>
  rw [h2a] at HV
  cases h2b : (kb == 2) with
  | true =>
    rw [h2b] at HV
    go_enter Tryd.func30, Tryd.ntmps30
    go_wp2_with fail
    go_at_call 20
    refine (HA.out _).mono ?_
    rintro e w1 ⟨rfl, hb1⟩
    obtain ⟨hbw, Z1⟩ := below3 hb1
    obtain ⟨z0, z1, z2⟩ := Z1
    obtain ⟨hc, hf⟩ := bcell hb1
    clear hb1
    go_wp2_with fail
    go_at_call 20
    refine (HB.out _).mono ?_
    rintro e w2 ⟨rfl, hb2⟩
    have hbw2 := hbw.trans (hb2.mono (by omega))
    obtain ⟨y0, y1, y2⟩ := later3 ⟨z0, z1, z2⟩ hb2
    obtain ⟨hc2, hf2⟩ := bcell hb2
    clear hb2
    go_wp2_with fail
    exact bodyPost_ret (v := .tuple #[VA 0 0 [], .int .i64 23]) (by simp [results, Tryd.results30, go_sem, VA, hc2, hc, z2] <;> first | rfl | exact ⟨rfl, rfl⟩ | skip) rfl ⟨by rw [HV.out]; exact rfl, (((hbw2.setCell (by first | (simp; done) | (simp; omega)) _).setCell (by first | (simp; done) | (simp; omega)) _).setCell (by first | (simp; done) | (simp; omega)) _)⟩
  | false =>
    rw [h2b] at HV
    go_enter Tryd.func30, Tryd.ntmps30
    go_wp2_with fail
    go_at_call 20
    refine (HA.out _).mono ?_
    rintro e w1 ⟨rfl, hb1⟩
    obtain ⟨hbw, Z1⟩ := below3 hb1
    obtain ⟨z0, z1, z2⟩ := Z1
    obtain ⟨hc, hf⟩ := bcell hb1
    clear hb1
    go_wp2_with fail
    go_at_call 20
    refine (HB.out _).mono ?_
    rintro e w2 ⟨rfl, hb2⟩
    have hbw2 := hbw.trans (hb2.mono (by omega))
    obtain ⟨y0, y1, y2⟩ := later3 ⟨z0, z1, z2⟩ hb2
    obtain ⟨hc2, hf2⟩ := bcell hb2
    clear hb2
    go_wp2_with fail
    go_at_call 59
    refine (add_any _ _ _).mono ?_
    rintro e w3 ⟨rfl, nd, rfl⟩
    go_wp2_with fail
    go_at_call 14
    refine (number_val _ _).mono ?_
    rintro e w4 ⟨rfl, hb4⟩
    have hb4 : Below w2.heap.size w2 w4 := ⟨hb4.os, hb4.tape, hb4.output, hb4.size, hb4.block⟩
    have hbw4 : Below w.heap.size w w4 := hbw2.trans (hb4.mono (by omega))
    obtain ⟨x0, x1, x2⟩ := later3 ⟨y0, y1, y2⟩ hb4
    obtain ⟨hc4, hf4⟩ := bcell hb4
    clear hb4
    unfold VA
    go_wp2_with fail
    exact bodyPost_ret (v := .tuple #[VA 1 (canon (opOf .add xa xb)) [], .int .i64 0]) (by simp [results, Tryd.results30, go_sem, VA, hc4, hc2, hc, z2, y2] <;> first | rfl | exact ⟨rfl, rfl⟩ | skip) rfl ⟨by rw [HV.out]; exact rfl, (((hbw4.setCell (by first | (simp; done) | (simp; omega)) _).setCell (by first | (simp; done) | (simp; omega)) _).setCell (by first | (simp; done) | (simp; omega)) _)⟩
set_option maxHeartbeats 1000000 in
theorem refPlus_any (ka : Int) (xa : UInt64) (sa : List UInt8) (kb : Int) (xb : UInt64) (sb : List UInt8) (w : World) :
    Calls Tryd.prog 31 #[VA ka xa sa, VA kb xb sb] w fun e w' => e = .returned (plusV ka xa sa kb xb sb) ∧ Below w.heap.size w w' := by
  have HV : Hid (plusV ka xa sa kb xb sb = if mayB ka xa sa && mayB kb xb sb && !(ka == 2) && !(kb == 2) then .tuple #[VA 1 (canon (opOf .add xa xb)) [], .int .i64 0] else .tuple #[VA 0 0 [], .int .i64 23]) := rfl
  have HA : Hid (∀ W, Calls Tryd.prog 21 #[.agg #[.int .i64 ka, .float .f64 (fb xa), .string (bs sa)]] W fun e w' => e = .returned (.bool (mayB ka xa sa)) ∧ Below W.heap.size W w') := fun W => refMay_any ka xa sa W
  have HB : Hid (∀ W, Calls Tryd.prog 21 #[.agg #[.int .i64 kb, .float .f64 (fb xb), .string (bs sb)]] W fun e w' => e = .returned (.bool (mayB kb xb sb)) ∧ Below W.heap.size W w') := fun W => refMay_any kb xb sb W
  unfold VA
  cases ha : mayB ka xa sa with
  | false =>
    rw [ha] at HV HA
    clear ha HB
    go_enter Tryd.func31, Tryd.ntmps31
    go_wp2_with fail
    go_at_call 21
    refine (HA.out _).mono ?_
    rintro e w1 ⟨rfl, hb1⟩
    obtain ⟨hbw, Z1⟩ := below3 hb1
    obtain ⟨z0, z1, z2⟩ := Z1
    obtain ⟨hc, hf⟩ := bcell hb1
    clear hb1
    go_wp2_with fail
    exact bodyPost_ret (v := .tuple #[VA 0 0 [], .int .i64 23]) (by simp [results, Tryd.results31, go_sem, VA, hc] <;> first | rfl | exact ⟨rfl, rfl⟩ | skip) rfl ⟨by rw [HV.out]; exact rfl, (((hbw.setCell (by first | (simp; done) | (simp; omega)) _).setCell (by first | (simp; done) | (simp; omega)) _).setCell (by first | (simp; done) | (simp; omega)) _)⟩
  | true =>
  rw [ha] at HV HA
  clear ha
  cases hb : mayB kb xb sb with
  | false =>
    rw [hb] at HV HB
    clear hb
    go_enter Tryd.func31, Tryd.ntmps31
    go_wp2_with fail
    go_at_call 21
    refine (HA.out _).mono ?_
    rintro e w1 ⟨rfl, hb1⟩
    obtain ⟨hbw, Z1⟩ := below3 hb1
    obtain ⟨z0, z1, z2⟩ := Z1
    obtain ⟨hc, hf⟩ := bcell hb1
    clear hb1
    go_wp2_with fail
    go_at_call 21
    refine (HB.out _).mono ?_
    rintro e w2 ⟨rfl, hb2⟩
    have hbw2 := hbw.trans (hb2.mono (by omega))
    obtain ⟨y0, y1, y2⟩ := later3 ⟨z0, z1, z2⟩ hb2
    obtain ⟨hc2, hf2⟩ := bcell hb2
    clear hb2
    go_wp2_with fail
    exact bodyPost_ret (v := .tuple #[VA 0 0 [], .int .i64 23]) (by simp [results, Tryd.results31, go_sem, VA, hc2, hc, z2] <;> first | rfl | exact ⟨rfl, rfl⟩ | skip) rfl ⟨by rw [HV.out]; exact rfl, (((hbw2.setCell (by first | (simp; done) | (simp; omega)) _).setCell (by first | (simp; done) | (simp; omega)) _).setCell (by first | (simp; done) | (simp; omega)) _)⟩
  | true =>
  rw [hb] at HV HB
  clear hb
  cases h2a : (ka == 2) with
  | true =>
    rw [h2a] at HV
    go_enter Tryd.func31, Tryd.ntmps31
    go_wp2_with fail
    go_at_call 21
    refine (HA.out _).mono ?_
    rintro e w1 ⟨rfl, hb1⟩
    obtain ⟨hbw, Z1⟩ := below3 hb1
    obtain ⟨z0, z1, z2⟩ := Z1
    obtain ⟨hc, hf⟩ := bcell hb1
    clear hb1
    go_wp2_with fail
    go_at_call 21
    refine (HB.out _).mono ?_
    rintro e w2 ⟨rfl, hb2⟩
    have hbw2 := hbw.trans (hb2.mono (by omega))
    obtain ⟨y0, y1, y2⟩ := later3 ⟨z0, z1, z2⟩ hb2
    obtain ⟨hc2, hf2⟩ := bcell hb2
    clear hb2
    go_wp2_with fail
    exact bodyPost_ret (v := .tuple #[VA 0 0 [], .int .i64 23]) (by simp [results, Tryd.results31, go_sem, VA, hc2, hc, z2] <;> first | rfl | exact ⟨rfl, rfl⟩ | skip) rfl ⟨by rw [HV.out]; exact rfl, (((hbw2.setCell (by first | (simp; done) | (simp; omega)) _).setCell (by first | (simp; done) | (simp; omega)) _).setCell (by first | (simp; done) | (simp; omega)) _)⟩
  | false =>
  rw [h2a] at HV
  cases h2b : (kb == 2) with
  | true =>
    rw [h2b] at HV
    go_enter Tryd.func31, Tryd.ntmps31
    go_wp2_with fail
    go_at_call 21
    refine (HA.out _).mono ?_
    rintro e w1 ⟨rfl, hb1⟩
    obtain ⟨hbw, Z1⟩ := below3 hb1
    obtain ⟨z0, z1, z2⟩ := Z1
    obtain ⟨hc, hf⟩ := bcell hb1
    clear hb1
    go_wp2_with fail
    go_at_call 21
    refine (HB.out _).mono ?_
    rintro e w2 ⟨rfl, hb2⟩
    have hbw2 := hbw.trans (hb2.mono (by omega))
    obtain ⟨y0, y1, y2⟩ := later3 ⟨z0, z1, z2⟩ hb2
    obtain ⟨hc2, hf2⟩ := bcell hb2
    clear hb2
    go_wp2_with fail
    exact bodyPost_ret (v := .tuple #[VA 0 0 [], .int .i64 23]) (by simp [results, Tryd.results31, go_sem, VA, hc2, hc, z2] <;> first | rfl | exact ⟨rfl, rfl⟩ | skip) rfl ⟨by rw [HV.out]; exact rfl, (((hbw2.setCell (by first | (simp; done) | (simp; omega)) _).setCell (by first | (simp; done) | (simp; omega)) _).setCell (by first | (simp; done) | (simp; omega)) _)⟩
  | false =>
    rw [h2b] at HV
    go_enter Tryd.func31, Tryd.ntmps31
    go_wp2_with fail
    go_at_call 21
    refine (HA.out _).mono ?_
    rintro e w1 ⟨rfl, hb1⟩
    obtain ⟨hbw, Z1⟩ := below3 hb1
    obtain ⟨z0, z1, z2⟩ := Z1
    obtain ⟨hc, hf⟩ := bcell hb1
    clear hb1
    go_wp2_with fail
    go_at_call 21
    refine (HB.out _).mono ?_
    rintro e w2 ⟨rfl, hb2⟩
    have hbw2 := hbw.trans (hb2.mono (by omega))
    obtain ⟨y0, y1, y2⟩ := later3 ⟨z0, z1, z2⟩ hb2
    obtain ⟨hc2, hf2⟩ := bcell hb2
    clear hb2
    go_wp2_with fail
    go_at_call 60
    refine (does0_any _ _ _).mono ?_
    rintro e w3 ⟨rfl, nd, rfl⟩
    go_wp2_with fail
    go_at_call 15
    refine (refNumber_val _ _).mono ?_
    rintro e w4 ⟨rfl, hb4⟩
    have hb4 : Below w2.heap.size w2 w4 := ⟨hb4.os, hb4.tape, hb4.output, hb4.size, hb4.block⟩
    have hbw4 : Below w.heap.size w w4 := hbw2.trans (hb4.mono (by omega))
    obtain ⟨x0, x1, x2⟩ := later3 ⟨y0, y1, y2⟩ hb4
    obtain ⟨hc4, hf4⟩ := bcell hb4
    clear hb4
    unfold VA
    go_wp2_with fail
    exact bodyPost_ret (v := .tuple #[VA 1 (canon (opOf .add xa xb)) [], .int .i64 0]) (by simp [results, Tryd.results31, go_sem, VA, hc4, hc2, hc, z2, y2] <;> first | rfl | exact ⟨rfl, rfl⟩ | skip) rfl ⟨by rw [HV.out]; exact rfl, (((hbw4.setCell (by first | (simp; done) | (simp; omega)) _).setCell (by first | (simp; done) | (simp; omega)) _).setCell (by first | (simp; done) | (simp; omega)) _)⟩
end Go.Proofs.YtecgjhjglklcnaaDoor
