import Derived.Test.YtcdbgekjjjbjbaaF4
import Derived.Lib.SlBytesConst
namespace Go.Proofs.Ytcdbgekjjjbjbaa
open Go.RowKit
attribute [local go_sem] bs_toList
def c13 : List UInt8 := [0x00, 0x00, 0x00, 0x00, 0xC7, 0x4B, 0x67, 0x48, 0x00, 0x00, 0x00, 0x00, 0x07]
def c9 : List UInt8 := [49, 50, 51, 52, 53, 54, 55, 56, 57]
theorem scan_c13 : scan c13 = ([[]], 12) := by decide +kernel
theorem crc_c9 : crc c9 = 0xE3069283 := by decide +kernel
theorem frame_nil : frameOf [] = [0x00, 0x00, 0x00, 0x00, 0xC7, 0x4B, 0x67, 0x48, 0x00, 0x00, 0x00, 0x00] := by decide +kernel
set_option maxHeartbeats 800000 in
theorem first_any (w : World) : Calls Try.prog 10 #[] w fun e w' => e = .returned (.bool true) ∧ Below w.heap.size w w' := by
  have kc := fun (w : World) (C : Array Value) (n c : Nat) => Lib.run_convert_bytes_const (P := Try.prog) w 22 5 C n c Try.underlying22 Try.underlying5
  go_enter Try.func10, Try.ntmps10
  go_wp2_with fail
  refine (frame_any none 0 0 [] w ⟨rfl, Rd.nil _ _⟩).mono ?_
  rintro e w1 ⟨v1, hb1, h | h⟩
  case inr => exact absurd (Nat.zero_le _) h.1
  obtain ⟨_, rfl, hown1⟩ := h
  have hl1 := hb1.size
  obtain ⟨a1, c1, rfl, hr1⟩ := hown1.rd
  go_wp2_with fail
  refine (scan_any _ _ _ c13 _ ?_ (by decide)).mono ?_
  · exact Rd8.lit w1 c13 13 rfl (by decide) 5 (13, 14)
  rintro e w2 ⟨v2, vs, rfl, h88, hb2⟩
  rw [scan_c13] at h88 ⊢
  have hl2 := hb2.size
  simp only [World.size_alloc] at hl2
  obtain ⟨a2, c2, rfl, hr2⟩ := Rd.of_own h88.1
  obtain ⟨u, hu⟩ : ∃ u, vs = [u] := by
    have := h88.1.1
    match vs, this with
    | [u], _ => exact ⟨u, rfl⟩
  subst hu
  have h0 := h88.2.1 0 u [] rfl rfl
  obtain ⟨a3, c3, rfl, hr3⟩ := h0.rd
  obtain ⟨b2, o2, rfl, hb2', hc2⟩ := hr2.at (by decide)
  have hc2 := hc2 0 _ rfl
  rw [Nat.add_zero] at hc2
  go_wp2_with fail
  refine (sum_few _ _ _ c9 _ ?_ (by decide)).mono ?_
  · exact Rd8.lit w2 c9 9 rfl (by decide) 5 (9, 10)
  rintro e w3 ⟨rfl, hw3⟩
  rw [crc_c9]
  have hb3 : Below w2.heap.size w2 w3 := by rw [hw3]; exact (Below.refl _ _).alloc (Nat.le_refl _) _
  clear hw3
  have hc3 : w3.cell? ⟨b2, o2, none⟩ = some (.slice a3 ([] : List UInt8).length c3) := by rw [hb3.cell (p := ⟨b2, o2, none⟩) hb2']; exact hc2
  have hb13 : Below w1.heap.size w1 w3 := (((Below.refl _ _).alloc (Nat.le_refl _) _).trans (hb2.mono (by simp))).trans (hb3.mono (by omega))
  have hr1' := hr1.below hb13
  rw [frame_nil] at hr1'
  have kv := run_toStr (P := Try.prog) hr1' 22 5 9 Try.underlying22 Try.underlying5 Try.underlying9
  rw [← frame_nil] at kv
  clear hc2
  go_wp2_with fail
  go_ret
  exact ⟨rfl, hb1.trans (hb13.mono hl1)⟩

/-- What every statement ends with. -/
def TrueEnd (w : World) (e : Ending) (w' : World) : Prop := e = .returned (.bool true) ∧ Below w.heap.size w w'
theorem firstT (w : World) : Calls Try.prog 10 #[] w (TrueEnd w) := first_any w

set_option maxHeartbeats 800000 in
theorem makes_walk (a : Option Addr) (n cap : Nat) (l : List UInt8) (w : World) (h : Rd8 w a n cap l) : Calls Try.prog 3 #[.slice a n cap] w (TrueEnd w) := by
  have hrd := h
  obtain ⟨rfl, hr⟩ := h
  have hm := hr.2.1
  have hnc := hr.1
  unfold maxLen at hm
  go_enter Try.func3, Try.ntmps3
  go_wp2_with fail
  refine (firstT _).mono ?_
  rintro e w1 ⟨rfl, hb1⟩
  have hl1 := hb1.size
  by_cases hbig : l.length ≤ 20000
  · have hd : decide ((20000 : Int) < l.length) = false := by simp; omega
    go_wp2_with fail
    refine (copyBytes_any _ _ _ l w1 (hrd.below hb1) (by omega)).mono ?_
    rintro e w2 ⟨v2, rfl, hown2, hb2⟩
    have hl2 := hb2.size
    have hbw2 := hb1.trans (hb2.mono hl1)
    obtain ⟨a2, c2, rfl, hr2⟩ := hown2.rd
    go_wp2_with fail
    refine (frame_any _ _ _ l w2 hr2).mono ?_
    rintro e w3 ⟨v3, hb3, h | h⟩
    case inr => exact absurd (by omega) h.1
    obtain ⟨_, rfl, hown3⟩ := h
    have hl3 := hb3.size
    obtain ⟨a3, c3, rfl, hr3⟩ := hown3.rd
    have hbw3 := hbw2.trans (hb3.mono (by omega))
    go_wp2_with fail
    refine (refFrame_any _ _ _ l w3 (hrd.below hbw3)).mono ?_
    rintro e w4 ⟨v4, hb4, h | h⟩
    case inr => exact absurd (by omega) h.1
    obtain ⟨_, rfl, hown4⟩ := h
    have hl4 := hb4.size
    obtain ⟨a4, c4, rfl, hr4⟩ := hown4.rd
    have hbw4 := hbw3.trans (hb4.mono (by omega))
    have hr2 := (hr2.below hb3).below hb4
    have hr3 := hr3.below hb4
    clear hown2 hown3 hown4 hb1 hb2 hb3 hb4 hbw2 hbw3
    go_wp2_with fail
    refine (firstT _).mono ?_
    rintro e w5 ⟨rfl, hb5⟩
    have hl5 := hb5.size
    go_wp2_with fail
    refine (sum_any _ _ _ l w5 (hr2.below hb5) (by omega)).mono ?_
    rintro e w6 ⟨rfl, hb6⟩
    have hb46 := hb5.trans (hb6.mono hl5)
    have hl6 := hb46.size
    go_wp2_with fail
    refine (refSum_any _ _ _ l w6 (hrd.below (hbw4.trans (hb46.mono (by omega)))) (by omega)).mono ?_
    rintro e w6 ⟨rfl, rfl⟩
    go_wp2_with fail
    refine (bytes_any _ _ _ _ _ _ _ _ w6 (hr3.below hb46) (hr4.below hb46)).mono ?_
    rintro e w6 ⟨rfl, rfl⟩
    go_wp2_with fail
    refine (bytes_any _ _ _ _ _ _ _ _ w6 (hr2.below hb46) (hrd.below (hbw4.trans (hb46.mono (by omega))))).mono ?_
    rintro e w6 ⟨rfl, rfl⟩
    go_wp2
    go_ret
    exact ⟨rfl, hbw4.trans (hb46.mono (by omega))⟩
  · have hd : decide ((20000 : Int) < l.length) = true := by simp; omega
    go_wp2_with fail
    refine (firstT _).mono ?_
    rintro e w2 ⟨rfl, hb2⟩
    go_wp2
    go_ret
    exact ⟨rfl, hb1.trans (hb2.mono hl1)⟩
end Go.Proofs.Ytcdbgekjjjbjbaa
