import Derived.Test.YtcdbgekjjjbjbaaF2
namespace Go.Proofs.Ytcdbgekjjjbjbaa
open Go.RowKit
attribute [local go_sem] n32_xor n32_and n8_to32 wr32_neg k_and1 k_andp
attribute [local go_sem high] un32_not k_shr1
theorem k_xorp (x : UInt32) : bits .xor .u32 (n32 x) 2197175160 = n32 (x ^^^ 0x82F63B78) := n32_xor x 0x82F63B78
attribute [local go_sem] k_xorp
set_option maxHeartbeats 400000 in
theorem refSum_any (a : Option Addr) (n cap : Nat) (l : List UInt8) (w : World) (h : Rd8 w a n cap l) (hn : l.length ≤ 140737488355328) :
    Calls Try.prog 15 #[.slice a n cap] w fun e w' => e = .returned (.int .u32 (n32 (crc l))) ∧ w' = w := by
  obtain ⟨rfl, hr⟩ := h
  go_enter Try.func15, Try.ntmps15
  go_wp2
  go_loop [3, 4] (fun c i => ∃ k : Nat, k ≤ l.length ∧ i = .int .i64 k ∧ c = .int .u32 (n32 (crcTo l k))) (fun _ i => l.length - (intOf i).toNat)
  case atStart => exact ⟨0, Nat.zero_le _, rfl, rfl⟩
  case round =>
    obtain ⟨k, hk, rfl, rfl⟩ := hrel
    by_cases hlt : k < l.length
    · obtain ⟨b, off, rfl, hb, hc⟩ := Rd8.at ⟨rfl, hr⟩ (by omega)
      have hcell := hc k hlt
      have Hs := Lib.hid (crcTo_snoc l k hlt)
      clear hc
      generalize l.getD k 0 = x at *
      go_wp2
      go_loop [3, 5] (fun c i => ∃ j : Nat, j ≤ 8 ∧ i = .int .i64 j ∧ c = .int .u32 (n32 (stps j (crcTo l k ^^^ x.toUInt32)))) (fun _ i => 8 - (intOf i).toNat)
      case atStart => exact ⟨0, by omega, rfl, rfl⟩
      case round =>
        obtain ⟨j, hj, rfl, rfl⟩ := hrel
        by_cases hj8 : j < 8
        · have Hst := Lib.hid (stp_ite (stps j (crcTo l k ^^^ x.toUInt32)))
          have Hj := Lib.hid (show stps (j + 1) (crcTo l k ^^^ x.toUInt32) = stp (stps j (crcTo l k ^^^ x.toUInt32)) from rfl)
          generalize stps j (crcTo l k ^^^ x.toUInt32) = c at *
          have h0 := n32_nn c
          by_cases hp : n32 c % 2 = 1
          · have Hp := Lib.hid (show c.toNat % 2 = 1 by unfold n32 at hp; omega)
            have hb : (n32 c % 2 == 1) = true := beq_iff_eq.2 hp
            clear hp
            go_wp2
            go_round
            case rel => exact ⟨j + 1, by omega, by go_num, by rw [Hj.out, Hst.out, if_pos Hp.out]⟩
            case measure => simp [intOf]; omega
          · have Hp := Lib.hid (show ¬ c.toNat % 2 = 1 by unfold n32 at hp; omega)
            have hb : (n32 c % 2 == 1) = false := beq_eq_false_iff_ne.2 hp
            clear hp
            go_wp2
            go_round
            case rel => exact ⟨j + 1, by omega, by go_num, by rw [Hj.out, Hst.out, if_neg Hp.out, UInt32.xor_zero]⟩
            case measure => simp [intOf]; omega
        · obtain rfl : j = 8 := by omega
          go_wp2
          go_round
          case rel => exact ⟨k + 1, by omega, by go_num, by rw [Hs.out]; rfl⟩
          case measure => simp [intOf]; omega
    · have Hs := Lib.hid (crcTo_all l k (by omega))
      go_wp2
      go_ret
      exact ⟨by unfold crc; rw [Hs.out]; rfl, rfl⟩

/-! ### Frames -/
def FrameEnd (w : World) (p : List UInt8) (e : Ending) (w' : World) : Prop :=
  ∃ v, Below w.heap.size w w' ∧ (p.length ≤ 262144 ∧ e = .returned (.tuple #[v, .int .i64 0]) ∧ Own8 w' w.heap.size 5 v (frameOf p) ∨ ¬ p.length ≤ 262144 ∧ e = .returned (.tuple #[.slice none 0 0, .int .i64 2]))

theorem len32 (n : Nat) (h : n ≤ 262144) : IntKind.u32.wrap (n : Int) = n32 (UInt32.ofNat n) := by
  rw [n32_of _ (by omega)]; exact IntWalk.u32_in _ (by omega)

set_option maxHeartbeats 400000 in
theorem frame_long (a : Option Addr) (n cap : Nat) (p : List UInt8) (w : World) (h : Rd8 w a n cap p) (hm : ¬ p.length ≤ 262144) : Calls Try.prog 12 #[.slice a n cap] w (FrameEnd w p) := by
  obtain ⟨rfl, hr⟩ := h
  have hd : decide ((p.length : Int) > 262144) = true := by simp; omega
  go_enter Try.func12, Try.ntmps12
  go_wp2
  go_ret2
  exact ⟨.slice none 0 0, Below.refl _ _, .inr ⟨hm, rfl⟩⟩

set_option maxHeartbeats 400000 in
theorem frame_ok (a : Option Addr) (n cap : Nat) (p : List UInt8) (w : World) (h : Rd8 w a n cap p) (hm : p.length ≤ 262144) : Calls Try.prog 12 #[.slice a n cap] w (FrameEnd w p) := by
  have hrd := h
  obtain ⟨rfl, hr⟩ := h
  have hd : decide ((p.length : Int) > 262144) = false := by simp; omega
  have k1 := len32 _ hm
  go_enter Try.func12, Try.ntmps12
  go_wp2_with (refine wpList_mk S8 rfl (.const (.int .i64 0)) (.tmp 10) rfl w.heap.size (p.length + 12) rfl rfl (by omega) (by unfold maxLen; omega) (Nat.le_refl _) ?_; intro v0 w1 hown1 hb1)
  have hl1 := hb1.size
  refine (put_any _ v0 [] w.heap.size w1 (Own8.mk hown1 rfl rfl) (by omega) (by simp)).mono ?_
  rintro e w2 ⟨v2, rfl, hown2, hb2⟩
  rw [List.nil_append] at hown2
  have hl2 := hb2.size
  obtain ⟨a2, cap2, rfl, hr2⟩ := hown2.rd
  clear hown1
  go_wp2_with fail
  refine (sum_any _ _ _ _ w2 hr2 (by rw [four_length]; omega)).mono ?_
  rintro e w3 ⟨rfl, hb3⟩
  have hl3 := hb3.size
  have hown3 := hown2.below (by omega) hb3
  clear hown2 hr2
  go_wp2_with fail
  refine (put_any _ _ _ w.heap.size w3 hown3 (by omega) (by rw [four_length]; omega)).mono ?_
  rintro e w4 ⟨v4, rfl, hown4, hb4⟩
  have hl4 := hb4.size
  have hbw : Below w.heap.size w w4 := ((hb1.trans hb2).trans (hb3.mono (by omega))).trans hb4
  have hr4 := hrd.below hbw
  clear hown3 hb1 hb2 hb3
  go_wp2_with (at_builtin; refine wpList_app S8 rfl (.tmp 20) (.tmp 21) rfl w.heap.size rfl hown4 rfl hr4.2 ?c1 ?c2 ?c3 ?c4 ?_)
  case c1 => exact B8_one _
  case c2 => simp [four_length]; omega
  case c3 => simp [maxLen, four_length]; omega
  case c4 => omega
  intro v5 w5 hown5 hb5 _
  have hown5 := Own8.mk (l := four (UInt32.ofNat p.length) ++ four (crc (four (UInt32.ofNat p.length))) ++ p) hown5 (by simp only [List.length_append]) (B8_append _ _).symm
  have hbw5 := hbw.trans hb5
  have hl5 := hb5.size
  have hr5 := hrd.below hbw5
  clear hown4 hb4 hr4 hb5 hbw
  go_wp2_with fail
  refine (sum_any _ _ _ _ w5 hr5 (by omega)).mono ?_
  rintro e w6 ⟨rfl, hb6⟩
  have hl6 := hb6.size
  have hown6 := hown5.below (by omega) hb6
  have hbw6 := hbw5.trans (hb6.mono (by omega))
  clear hown5 hb6
  go_wp2_with fail
  refine (put_any _ _ _ w.heap.size w6 hown6 (by omega) (by simp only [List.length_append, four_length]; omega)).mono ?_
  rintro e w7 ⟨v7, rfl, hown7, hb7⟩
  go_wp2
  go_ret2
  exact ⟨v7, hbw6.trans hb7, .inl ⟨hm, rfl, hown7⟩⟩

theorem frame_any (a : Option Addr) (n cap : Nat) (p : List UInt8) (w : World) (h : Rd8 w a n cap p) : Calls Try.prog 12 #[.slice a n cap] w (FrameEnd w p) := by
  by_cases hm : p.length ≤ 262144
  · exact frame_ok a n cap p w h hm
  · exact frame_long a n cap p w h hm

set_option maxHeartbeats 400000 in
theorem refFrame_ok (a : Option Addr) (n cap : Nat) (p : List UInt8) (w : World) (h : Rd8 w a n cap p) (hm : p.length ≤ 262144) : Calls Try.prog 13 #[.slice a n cap] w (FrameEnd w p) := by
  have hrd := h
  obtain ⟨rfl, hr⟩ := h
  have hd : decide ((p.length : Int) > 262144) = false := by simp; omega
  have k1 := len32 _ hm
  go_enter Try.func13, Try.ntmps13
  go_wp2_with fail
  refine (four_any _ w).mono ?_
  rintro e w1 ⟨v1, rfl, hown1, hb1⟩
  have hl1 := hb1.size
  obtain ⟨a1, cap1, rfl, hr1⟩ := hown1.rd
  go_wp2_with (at_builtin; refine wpList_app S8 rfl (.tmp 13) (.tmp 14) rfl w1.heap.size rfl (World.ownsRow_lit w1 #[] 0 (Nat.le_refl _) (by decide) rfl) rfl (hr1.below ((Below.refl _ _).alloc (Nat.le_refl _) _)).2 ?c1 ?c2 ?c3 ?c4 ?_)
  case c1 => exact B8_one _
  case c2 => simp [four_length]
  case c3 => simp [maxLen, four_length]
  case c4 => simp
  intro v2 w2 hown2 hb2 _
  have hown2 := Own8.mk (l := four (UInt32.ofNat p.length)) hown2 (by simp only) (by simp)
  have hs1 : w1.heap.size + 1 ≤ w2.heap.size := by have := hb2.size; simpa using this
  have hb12 : Below w1.heap.size w1 w2 := ((Below.refl _ _).alloc (Nat.le_refl _) _).trans hb2
  have hr1' := hr1.below hb12
  clear hown1 hr1 hb2
  go_wp2_with fail
  refine (refSum_any _ _ _ _ w2 hr1' (by rw [four_length]; omega)).mono ?_
  rintro e w2 ⟨rfl, rfl⟩
  go_wp2_with fail
  refine (four_any _ w2).mono ?_
  rintro e w3 ⟨v3, rfl, hown3, hb3⟩
  have hl3 := hb3.size
  obtain ⟨a3, cap3, rfl, hr3⟩ := hown3.rd
  have hown2' := hown2.below (Nat.le_refl _) hb3
  have hbw3 : Below w.heap.size w w3 := (hb1.trans (hb12.mono (by omega))).trans (hb3.mono (by omega))
  clear hown2 hown3 hb3 hr1' hb12
  go_wp2_with (at_builtin; refine wpList_app S8 rfl (.tmp 16) (.tmp 19) rfl w1.heap.size rfl hown2' rfl hr3.2 ?c1 ?c2 ?c3 ?c4 ?_)
  case c1 => exact B8_one _
  case c2 => simp only [four_length]; omega
  case c3 => simp only [maxLen, four_length]; omega
  case c4 => omega
  intro v4 w4 hown4 hb4 _
  have hown4 := Own8.mk (l := four (UInt32.ofNat p.length) ++ four (crc (four (UInt32.ofNat p.length)))) hown4 (by simp only [List.length_append]) (B8_append _ _).symm
  have hl4 := hb4.size
  have hbw4 := hbw3.trans (hb4.mono (by omega))
  have hr4 := hrd.below hbw4
  clear hown2' hr3 hb4 hbw3
  go_wp2_with (at_builtin; refine wpList_app S8 rfl (.tmp 21) (.tmp 22) rfl w1.heap.size rfl hown4 rfl hr4.2 ?c1 ?c2 ?c3 ?c4 ?_)
  case c1 => exact B8_one _
  case c2 => simp only [List.length_append, four_length]; omega
  case c3 => simp only [maxLen, List.length_append, four_length]; omega
  case c4 => omega
  intro v5 w5 hown5 hb5 _
  have hown5 := Own8.mk (l := four (UInt32.ofNat p.length) ++ four (crc (four (UInt32.ofNat p.length))) ++ p) hown5 (by simp only [List.length_append]) (B8_append _ _).symm
  have hl5 := hb5.size
  have hbw5 := hbw4.trans (hb5.mono (by omega))
  have hr5 := hrd.below hbw5
  clear hown4 hr4 hb5 hbw4
  go_wp2_with fail
  refine (refSum_any _ _ _ _ w5 hr5 (by omega)).mono ?_
  rintro e w5 ⟨rfl, rfl⟩
  go_wp2_with fail
  refine (four_any _ w5).mono ?_
  rintro e w6 ⟨v6, rfl, hown6, hb6⟩
  have hl6 := hb6.size
  obtain ⟨a6, cap6, rfl, hr6⟩ := hown6.rd
  have hown5' := hown5.below (Nat.le_refl _) hb6
  have hbw6 := hbw5.trans (hb6.mono (by omega))
  clear hown5 hown6 hb6
  go_wp2_with (at_builtin; refine wpList_app S8 rfl (.tmp 24) (.tmp 27) rfl w1.heap.size rfl hown5' rfl hr6.2 ?c1 ?c2 ?c3 ?c4 ?_)
  case c1 => exact B8_one _
  case c2 => simp only [List.length_append, four_length]; omega
  case c3 => simp only [maxLen, List.length_append, four_length]; omega
  case c4 => omega
  intro v7 w7 hown7 hb7 _
  have hown7 := Own8.mk (l := frameOf p) hown7 (by simp only [frameOf, List.length_append, Nat.add_assoc]) (by simp only [frameOf, B8_append, List.append_assoc])
  go_wp2
  go_ret2
  exact ⟨v7, hbw6.trans (hb7.mono (by omega)), .inl ⟨hm, rfl, hown7.mono (by omega)⟩⟩

set_option maxHeartbeats 400000 in
theorem refFrame_long (a : Option Addr) (n cap : Nat) (p : List UInt8) (w : World) (h : Rd8 w a n cap p) (hm : ¬ p.length ≤ 262144) : Calls Try.prog 13 #[.slice a n cap] w (FrameEnd w p) := by
  obtain ⟨rfl, hr⟩ := h
  have hd : decide ((p.length : Int) > 262144) = true := by simp; omega
  go_enter Try.func13, Try.ntmps13
  go_wp2
  go_ret2
  exact ⟨.slice none 0 0, Below.refl _ _, .inr ⟨hm, rfl⟩⟩
theorem refFrame_any (a : Option Addr) (n cap : Nat) (p : List UInt8) (w : World) (h : Rd8 w a n cap p) : Calls Try.prog 13 #[.slice a n cap] w (FrameEnd w p) := by
  by_cases hm : p.length ≤ 262144
  · exact refFrame_ok a n cap p w h hm
  · exact refFrame_long a n cap p w h hm
end Go.Proofs.Ytcdbgekjjjbjbaa
