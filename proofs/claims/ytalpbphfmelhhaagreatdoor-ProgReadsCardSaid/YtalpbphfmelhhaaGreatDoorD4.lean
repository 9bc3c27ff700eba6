/-
  The walks of Compare, Same of values, and the reference's. Written by a program (d4gen.py).
-/
import Derived.Test.YtalpbphfmelhhaaGreatDoorDA
namespace Go.Proofs.YtalpbphfmelhhaaGreatDoor
set_option maxRecDepth 100000
open Go.RowKit Go.Shelf Go.Sort
attribute [local go_sem] bs_size bs_get bs_toList frombits tobits run_store_float
/-- How two texts stand, byte by byte. -/
def cmpText (a b : List UInt8) : Int := if Op.bytesLess a b then -1 else if a == b then 0 else 1
/-- How two values stand. -/
def cmpV (ka : Int) (xa : UInt64) (sa : List UInt8) (kb : Int) (xb : UInt64) (sb : List UInt8) : Int :=
  if (mayB ka xa sa && mayB kb xb sb) = false then 0 else if ka < kb then -1 else if kb < ka then 1 else if ka = 1 then cmpOf xa xb else cmpText sa sb
theorem may0 {x : UInt64} {s : List UInt8} (h : mayB 0 x s = true) : x = 0 ∧ s = [] := by
  unfold mayB at h; rw [if_pos rfl, Bool.and_eq_true] at h
  exact ⟨by simpa using h.1, by simpa using h.2⟩
set_option maxHeartbeats 4000000 in
theorem compareV_any (ka : Int) (xa : UInt64) (sa : List UInt8) (kb : Int) (xb : UInt64) (sb : List UInt8) (w : World) :
    Calls Tryz.prog 103 #[VA ka xa sa, VA kb xb sb] w fun e w' => e = .returned (.int .i64 (cmpV ka xa sa kb xb sb)) ∧ Below w.heap.size w w' := by
  have HV : Hid (cmpV ka xa sa kb xb sb = if (mayB ka xa sa && mayB kb xb sb) = false then 0 else if ka < kb then -1 else if kb < ka then 1 else if ka = 1 then cmpOf xa xb else cmpText sa sb) := rfl
  have HA : Hid (∀ W, Calls Tryz.prog 69 #[.agg #[.int .i64 ka, .float .f64 (fb xa), .string (bs sa)]] W fun e w' => e = .returned (.bool (mayB ka xa sa)) ∧ Below W.heap.size W w') := fun W => may_any ka xa sa W
  have HB : Hid (∀ W, Calls Tryz.prog 69 #[.agg #[.int .i64 kb, .float .f64 (fb xb), .string (bs sb)]] W fun e w' => e = .returned (.bool (mayB kb xb sb)) ∧ Below W.heap.size W w') := fun W => may_any kb xb sb W
  unfold VA
  cases ha : mayB ka xa sa with
  | false =>
    have HR : Hid (cmpV ka xa sa kb xb sb = 0) := by rw [HV.out, ha, if_pos (by simp)]; exact rfl
    rw [ha] at HA
    clear ha HB HV
    go_enter Tryz.func103, Tryz.ntmps103
    go_wp2_with fail
    go_at_call 69
    refine (HA.out _).mono ?_
    rintro e w1 ⟨rfl, hb1⟩
    obtain ⟨hbw, Z1⟩ := below2 hb1
    obtain ⟨z0, z1⟩ := Z1
    obtain ⟨hc, hf⟩ := bcell hb1
    clear hb1
    go_wp2_with fail
    go_ret
    exact ⟨by rw [HR.out]; rfl, hbw⟩
  | true =>
  cases hb : mayB kb xb sb with
  | false =>
    have HR : Hid (cmpV ka xa sa kb xb sb = 0) := by rw [HV.out, hb, if_pos (by simp)]; exact rfl
    rw [ha] at HA
    rw [hb] at HB
    clear ha hb HV
    go_enter Tryz.func103, Tryz.ntmps103
    go_wp2_with fail
    go_at_call 69
    refine (HA.out _).mono ?_
    rintro e w1 ⟨rfl, hb1⟩
    obtain ⟨hbw, Z1⟩ := below2 hb1
    obtain ⟨z0, z1⟩ := Z1
    obtain ⟨hc, hf⟩ := bcell hb1
    clear hb1
    go_wp2_with fail
    go_at_call 69
    refine (HB.out _).mono ?_
    rintro e w2 ⟨rfl, hb2⟩
    have hbw2 := hbw.trans (hb2.mono (by omega))
    obtain ⟨y0, y1⟩ := later2 ⟨z0, z1⟩ hb2
    obtain ⟨hc2, hf2⟩ := bcell hb2
    clear hb2
    go_wp2_with fail
    go_ret
    exact ⟨by rw [HR.out]; rfl, hbw2⟩
  | true =>
  have HV : Hid (cmpV ka xa sa kb xb sb = if ka < kb then -1 else if kb < ka then 1 else if ka = 1 then cmpOf xa xb else cmpText sa sb) := by rw [HV.out, ha, hb, if_neg (by simp)]; exact rfl
  rw [ha] at HA
  rw [hb] at HB
  clear ha hb
  by_cases hlt : ka < kb
  · have HR : Hid (cmpV ka xa sa kb xb sb = -1) := by rw [HV.out, if_pos hlt]; exact rfl
    have d1 : decide (ka < kb) = true := decide_eq_true hlt
    clear hlt HV
    go_enter Tryz.func103, Tryz.ntmps103
    go_wp2_with fail
    go_at_call 69
    refine (HA.out _).mono ?_
    rintro e w1 ⟨rfl, hb1⟩
    obtain ⟨hbw, Z1⟩ := below2 hb1
    obtain ⟨z0, z1⟩ := Z1
    obtain ⟨hc, hf⟩ := bcell hb1
    clear hb1
    go_wp2_with fail
    go_at_call 69
    refine (HB.out _).mono ?_
    rintro e w2 ⟨rfl, hb2⟩
    have hbw2 := hbw.trans (hb2.mono (by omega))
    obtain ⟨y0, y1⟩ := later2 ⟨z0, z1⟩ hb2
    obtain ⟨hc2, hf2⟩ := bcell hb2
    clear hb2
    go_wp2_with fail
    go_ret
    exact ⟨by rw [HR.out]; rfl, hbw2⟩
  have d1 : decide (ka < kb) = false := decide_eq_false hlt
  by_cases hgt : kb < ka
  · have HR : Hid (cmpV ka xa sa kb xb sb = 1) := by rw [HV.out, if_neg hlt, if_pos hgt]; exact rfl
    have d2 : decide (kb < ka) = true := decide_eq_true hgt
    clear hlt hgt HV
    go_enter Tryz.func103, Tryz.ntmps103
    go_wp2_with fail
    go_at_call 69
    refine (HA.out _).mono ?_
    rintro e w1 ⟨rfl, hb1⟩
    obtain ⟨hbw, Z1⟩ := below2 hb1
    obtain ⟨z0, z1⟩ := Z1
    obtain ⟨hc, hf⟩ := bcell hb1
    clear hb1
    go_wp2_with fail
    go_at_call 69
    refine (HB.out _).mono ?_
    rintro e w2 ⟨rfl, hb2⟩
    have hbw2 := hbw.trans (hb2.mono (by omega))
    obtain ⟨y0, y1⟩ := later2 ⟨z0, z1⟩ hb2
    obtain ⟨hc2, hf2⟩ := bcell hb2
    clear hb2
    go_wp2_with fail
    go_ret
    exact ⟨by rw [HR.out]; rfl, hbw2⟩
  have d2 : decide (kb < ka) = false := decide_eq_false hgt
  by_cases h1 : ka = 1
  · have HR : Hid (cmpV ka xa sa kb xb sb = cmpOf xa xb) := by rw [HV.out, if_neg hlt, if_neg hgt, if_pos h1]; exact rfl
    have d3 : (ka == 1) = true := beq_iff_eq.2 h1
    clear hlt hgt HV h1
    go_enter Tryz.func103, Tryz.ntmps103
    go_wp2_with fail
    go_at_call 69
    refine (HA.out _).mono ?_
    rintro e w1 ⟨rfl, hb1⟩
    obtain ⟨hbw, Z1⟩ := below2 hb1
    obtain ⟨z0, z1⟩ := Z1
    obtain ⟨hc, hf⟩ := bcell hb1
    clear hb1
    go_wp2_with fail
    go_at_call 69
    refine (HB.out _).mono ?_
    rintro e w2 ⟨rfl, hb2⟩
    have hbw2 := hbw.trans (hb2.mono (by omega))
    obtain ⟨y0, y1⟩ := later2 ⟨z0, z1⟩ hb2
    obtain ⟨hc2, hf2⟩ := bcell hb2
    clear hb2
    go_wp2_with (go_at_call 123; ((with_reducible refine (compare_any _ _ _).mono ?_); rintro e w' ⟨rfl, rfl⟩))
    go_ret
    exact ⟨by rw [HR.out]; rfl, hbw2⟩
  have d3 : (ka == 1) = false := beq_eq_false_iff_ne.2 h1
  have HV : Hid (cmpV ka xa sa kb xb sb = if Op.bytesLess sa sb then -1 else if sa == sb then 0 else 1) := by rw [HV.out, if_neg hlt, if_neg hgt, if_neg h1]; exact rfl
  clear hlt hgt h1
  cases hL : Op.bytesLess sa sb with
  | true =>
    have HR : Hid (cmpV ka xa sa kb xb sb = -1) := by rw [HV.out, hL, if_pos rfl]; exact rfl
    clear HV
    go_enter Tryz.func103, Tryz.ntmps103
    go_wp2_with fail
    go_at_call 69
    refine (HA.out _).mono ?_
    rintro e w1 ⟨rfl, hb1⟩
    obtain ⟨hbw, Z1⟩ := below2 hb1
    obtain ⟨z0, z1⟩ := Z1
    obtain ⟨hc, hf⟩ := bcell hb1
    clear hb1
    go_wp2_with fail
    go_at_call 69
    refine (HB.out _).mono ?_
    rintro e w2 ⟨rfl, hb2⟩
    have hbw2 := hbw.trans (hb2.mono (by omega))
    obtain ⟨y0, y1⟩ := later2 ⟨z0, z1⟩ hb2
    obtain ⟨hc2, hf2⟩ := bcell hb2
    clear hb2
    go_wp2_with fail
    go_ret
    exact ⟨by rw [HR.out]; rfl, hbw2⟩
  | false =>
  cases hE : (sa == sb) with
  | true =>
    have HR : Hid (cmpV ka xa sa kb xb sb = 0) := by rw [HV.out, hL, hE, if_neg (by decide), if_pos rfl]; exact rfl
    clear HV
    go_enter Tryz.func103, Tryz.ntmps103
    go_wp2_with fail
    go_at_call 69
    refine (HA.out _).mono ?_
    rintro e w1 ⟨rfl, hb1⟩
    obtain ⟨hbw, Z1⟩ := below2 hb1
    obtain ⟨z0, z1⟩ := Z1
    obtain ⟨hc, hf⟩ := bcell hb1
    clear hb1
    go_wp2_with fail
    go_at_call 69
    refine (HB.out _).mono ?_
    rintro e w2 ⟨rfl, hb2⟩
    have hbw2 := hbw.trans (hb2.mono (by omega))
    obtain ⟨y0, y1⟩ := later2 ⟨z0, z1⟩ hb2
    obtain ⟨hc2, hf2⟩ := bcell hb2
    clear hb2
    go_wp2_with fail
    go_ret
    exact ⟨by rw [HR.out]; rfl, hbw2⟩
  | false =>
    have HR : Hid (cmpV ka xa sa kb xb sb = 1) := by rw [HV.out, hL, hE, if_neg (by decide), if_neg (by decide)]; exact rfl
    clear HV
    go_enter Tryz.func103, Tryz.ntmps103
    go_wp2_with fail
    go_at_call 69
    refine (HA.out _).mono ?_
    rintro e w1 ⟨rfl, hb1⟩
    obtain ⟨hbw, Z1⟩ := below2 hb1
    obtain ⟨z0, z1⟩ := Z1
    obtain ⟨hc, hf⟩ := bcell hb1
    clear hb1
    go_wp2_with fail
    go_at_call 69
    refine (HB.out _).mono ?_
    rintro e w2 ⟨rfl, hb2⟩
    have hbw2 := hbw.trans (hb2.mono (by omega))
    obtain ⟨y0, y1⟩ := later2 ⟨z0, z1⟩ hb2
    obtain ⟨hc2, hf2⟩ := bcell hb2
    clear hb2
    go_wp2_with fail
    go_ret
    exact ⟨by rw [HR.out]; rfl, hbw2⟩
def sameB (ka : Int) (xa : UInt64) (sa : List UInt8) (kb : Int) (xb : UInt64) (sb : List UInt8) : Bool := mayB ka xa sa && mayB kb xb sb && (cmpV ka xa sa kb xb sb == 0)
end Go.Proofs.YtalpbphfmelhhaaGreatDoor
