import Derived.Test.YtjjcilinghgphaaF2
namespace Go.Proofs.Ytjjcilinghgphaa
open Go.RowKit
attribute [local go_sem] n32_xor n32_and n8_to32 wr32_neg k_and1 k_andp
attribute [local go_sem high] un32_not k_shr1
theorem k_xorp (x : UInt32) : bits .xor .u32 (n32 x) 2197175160 = n32 (x ^^^ 0x82F63B78) := n32_xor x 0x82F63B78
attribute [local go_sem] k_xorp
/-! ### Frames -/
def FrameEnd (w : World) (p : List UInt8) (e : Ending) (w' : World) : Prop :=
  ∃ v, Below w.heap.size w w' ∧ (p.length ≤ 262144 ∧ e = .returned (.tuple #[v, .int .i64 0]) ∧ Own8 w' w.heap.size 5 v (frameOf p) ∨ ¬ p.length ≤ 262144 ∧ e = .returned (.tuple #[.slice none 0 0, .int .i64 2]))

theorem len32 (n : Nat) (h : n ≤ 262144) : IntKind.u32.wrap (n : Int) = n32 (UInt32.ofNat n) := by
  rw [n32_of _ (by omega)]; exact IntWalk.u32_in _ (by omega)

set_option maxHeartbeats 400000 in
theorem frame_long (a : Option Addr) (n cap : Nat) (p : List UInt8) (w : World) (h : Rd8 w a n cap p) (hm : ¬ p.length ≤ 262144) : Calls Try.prog 41 #[.slice a n cap] w (FrameEnd w p) := by
  obtain ⟨rfl, hr⟩ := h
  have hd : decide ((p.length : Int) > 262144) = true := by simp; omega
  go_enter Try.func41, Try.ntmps41
  go_wp2
  go_ret2
  exact ⟨.slice none 0 0, Below.refl _ _, .inr ⟨hm, rfl⟩⟩

set_option maxHeartbeats 400000 in
theorem frame_ok (a : Option Addr) (n cap : Nat) (p : List UInt8) (w : World) (h : Rd8 w a n cap p) (hm : p.length ≤ 262144) : Calls Try.prog 41 #[.slice a n cap] w (FrameEnd w p) := by
  have hrd := h
  obtain ⟨rfl, hr⟩ := h
  have hd : decide ((p.length : Int) > 262144) = false := by simp; omega
  have k1 := len32 _ hm
  go_enter Try.func41, Try.ntmps41
  go_wp2_with (refine wpList_mk S8 rfl (.const (.int .i64 0)) (.tmp 10) rfl w.heap.size (p.length + 12) rfl rfl (by omega) (by unfold maxLen; omega) (Nat.le_refl _) ?_; intro v0 w1 hown1 hb1)
  have hl1 := hb1.size
  refine (f_put_any _ v0 [] w.heap.size w1 (Own8.mk hown1 rfl rfl) (by omega) (by simp)).mono ?_
  rintro e w2 ⟨v2, rfl, hown2, hb2⟩
  rw [List.nil_append] at hown2
  have hl2 := hb2.size
  obtain ⟨a2, cap2, rfl, hr2⟩ := hown2.rd
  clear hown1
  go_wp2_with fail
  refine (sum_any _ _ _ _ w2 hr2 (by rw [four_length]; omega)).mono ?_
  rintro e w3 ⟨rfl, hb3⟩
  have hl3 := hb3.size
  have hown3 := hown2.below (by omega) hb3
  clear hown2 hr2
  go_wp2_with fail
  refine (f_put_any _ _ _ w.heap.size w3 hown3 (by omega) (by rw [four_length]; omega)).mono ?_
  rintro e w4 ⟨v4, rfl, hown4, hb4⟩
  have hl4 := hb4.size
  have hbw : Below w.heap.size w w4 := ((hb1.trans hb2).trans (hb3.mono (by omega))).trans hb4
  have hr4 := hrd.below hbw
  clear hown3 hb1 hb2 hb3
  go_wp2_with (at_builtin; refine wpList_app S8 rfl (.tmp 20) (.tmp 21) rfl w.heap.size rfl hown4 rfl hr4.2 ?c1 ?c2 ?c3 ?c4 ?_)
  case c1 => exact B8_one _
  case c2 => simp [four_length]; omega
  case c3 => simp [maxLen, four_length]; omega
  case c4 => omega
  intro v5 w5 hown5 hb5 _
  have hown5 := Own8.mk (l := four (UInt32.ofNat p.length) ++ four (crc (four (UInt32.ofNat p.length))) ++ p) hown5 (by simp only [List.length_append]) (B8_append _ _).symm
  have hbw5 := hbw.trans hb5
  have hl5 := hb5.size
  have hr5 := hrd.below hbw5
  clear hown4 hb4 hr4 hb5 hbw
  go_wp2_with fail
  refine (sum_any _ _ _ _ w5 hr5 (by omega)).mono ?_
  rintro e w6 ⟨rfl, hb6⟩
  have hl6 := hb6.size
  have hown6 := hown5.below (by omega) hb6
  have hbw6 := hbw5.trans (hb6.mono (by omega))
  clear hown5 hb6
  go_wp2_with fail
  refine (f_put_any _ _ _ w.heap.size w6 hown6 (by omega) (by simp only [List.length_append, four_length]; omega)).mono ?_
  rintro e w7 ⟨v7, rfl, hown7, hb7⟩
  go_wp2
  go_ret2
  exact ⟨v7, hbw6.trans hb7, .inl ⟨hm, rfl, hown7⟩⟩

theorem frame_any (a : Option Addr) (n cap : Nat) (p : List UInt8) (w : World) (h : Rd8 w a n cap p) : Calls Try.prog 41 #[.slice a n cap] w (FrameEnd w p) := by
  by_cases hm : p.length ≤ 262144
  · exact frame_ok a n cap p w h hm
  · exact frame_long a n cap p w h hm

end Go.Proofs.Ytjjcilinghgphaa
