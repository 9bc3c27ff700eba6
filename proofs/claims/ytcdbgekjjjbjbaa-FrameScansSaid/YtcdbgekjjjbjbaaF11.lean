import Derived.Test.YtcdbgekjjjbjbaaF10
namespace Go.Proofs.Ytcdbgekjjjbjbaa
open Go.RowKit

/-- The first m rows. -/
theorem run_take88 {w : World} {a : Option Addr} {n cap : Nat} {ls : List (List UInt8)} (h : Rd88 w a n cap ls) (m : Nat) (hm : m ≤ ls.length) :
    ∃ a' c', (∀ w', (Instr.slice 33 (.slice a n cap) none (some (.int .i64 m)) none).run Try.prog w' = .ok (.slice a' m c') w') ∧ Rd88 w a' m c' (ls.take m) := by
  obtain ⟨rfl, vs, hr, hi⟩ := h
  obtain ⟨a', c', hs, hr'⟩ := run_slice S88 hr none (some (.int .i64 m)) 0 m (.inl ⟨rfl, rfl⟩) (.inr rfl) (Nat.zero_le _) hm
  rw [Nat.sub_zero] at hs hr'
  refine ⟨a', c', hs, by simp; omega, _, hr', fun i l hl => ?_⟩
  have hlt : i < m := by
    rcases Nat.lt_or_ge i m with h | h
    · exact h
    · rw [List.getElem?_eq_none (by simp; omega)] at hl; cases hl
  rw [List.getElem?_take, if_pos hlt] at hl
  obtain ⟨ai, ci, hv, hri⟩ := hi i l hl
  refine ⟨ai, ci, ?_, hri⟩
  rw [Nat.zero_mul, List.drop_zero, Nat.mul_one, List.getElem?_take, if_pos hlt]
  exact hv

set_option maxHeartbeats 1600000 in
theorem rows_walk (a a' : Option Addr) (n n' cap cap' : Nat) (ls : List (List UInt8)) (r : List UInt8) (w : World) (h : Rd88 w a n cap ls) (h' : Rd8 w a' n' cap' r) : Calls Try.prog 6 #[.slice a n cap, .slice a' n' cap'] w (TrueEnd w) := by
  have hR := h
  have hR' := h'
  obtain ⟨rfl, vs, hr, _⟩ := h
  obtain ⟨rfl, hr'⟩ := h'
  have hm := hr.2.1
  have hnc := hr.1
  have hm' := hr'.2.1
  have hnc' := hr'.1
  unfold maxLen at hm hm'
  clear hr hr'
  go_enter Try.func6, Try.ntmps6
  go_wp2_with fail
  refine (firstT _).mono ?_
  rintro e w1 ⟨rfl, hb1⟩
  have hl1 := hb1.size
  go_wp2_with fail
  refine (few_any _ _ _ ls w1 (hR.below hb1)).mono ?_
  rintro e w1 ⟨rfl, rfl⟩
  by_cases hf : fewB ls = true
  · by_cases h2 : r.length ≤ 20000
    · obtain ⟨f1, f2, f3⟩ := few_facts hf
      have S1 := scan_joinF' ls (fun p hp => by have := f2 p hp; omega)
      have S2 := scan_joinF ls r (fun p hp => by have := f2 p hp; omega)
      have HS1 := Lib.hid S1
      have HS2 := Lib.hid S2
      have Hsl : Hid ((scan r).2 ≤ r.length) := (scan_join _ r (Nat.le_refl _)).2.1
      have Hf := Lib.hid hf
      clear S1 S2 f2
      rw [hf]
      clear hf
      have d2 : decide ((20000 : Int) < r.length) = false := by simp; omega
      go_wp2_with fail
      refine (joined_any _ _ _ ls w1 (hR.below hb1) Hf.out).mono ?_
      rintro e w2 ⟨v2, rfl, hown2, hb2⟩
      have hl2 := hb2.size
      have hbw2 := hb1.trans (hb2.mono hl1)
      generalize hb : joinF ls = b at *
      have Hb := Lib.hid hb; clear hb
      obtain ⟨a2, c2, rfl, hr2⟩ := hown2.rd
      go_wp2_with fail
      refine (scan_any _ _ _ b w2 hr2 (by omega)).mono ?_
      rintro e w3 ⟨v3, vs3, rfl, h88, hb3⟩
      rw [HS1.out] at h88 ⊢
      have hl3 := hb3.size
      have hbw3 := hbw2.trans (hb3.mono (by omega))
      obtain ⟨a3, c3, rfl, hr3⟩ := h88.rd
      have hr2 := hr2.below hb3
      go_wp2_with fail
      refine (copyBytes_any _ _ _ b w3 hr2 (by omega)).mono ?_
      rintro e w4 ⟨v4, rfl, hown4, hb4⟩
      have hl4 := hb4.size
      have hbw4 := hbw3.trans (hb4.mono (by omega))
      have hrr := hR'.below hbw4
      go_wp2_with (at_builtin; refine wpList_app S8 rfl (.tmp 36) (.tmp 37) rfl w3.heap.size rfl hown4 rfl hrr.2 ?c1 ?c2 ?c3 ?c4 ?_)
      case c1 => exact B8_one _
      case c2 => omega
      case c3 => unfold maxLen; omega
      case c4 => omega
      intro v5 w5 hown5 hb5 _
      have hown5 := Own8.mk (l := b ++ r) hown5 (by simp only [List.length_append]) (B8_append _ _).symm
      have hb35 : Below w3.heap.size w3 w5 := hb4.trans hb5
      have hl5 := hb35.size
      have hbw5 := hbw3.trans (hb35.mono (by omega))
      obtain ⟨a5, c5, rfl, hr5⟩ := hown5.rd
      have hr5 := hr5.len (m := b.length + r.length) (by simp)
      have hr3 := hr3.below hb35
      have hr2 := hr2.below hb35
      clear hown2 hown4 hb4 hb5 hrr hb2 hb3 hbw2 hbw4 h88
      go_wp2_with fail
      refine (scan_any _ _ _ (b ++ r) w5 hr5 (by simp; omega)).mono ?_
      rintro e w6 ⟨v6, vs6, rfl, h886, hb6⟩
      rw [HS2.out] at h886 ⊢
      have hl6 := hb6.size
      have hbw6 := hbw5.trans (hb6.mono (by omega))
      obtain ⟨a6, c6, rfl, hr6⟩ := h886.rd
      have hr3 := hr3.below hb6
      go_wp2_with fail
      refine (firstT _).mono ?_
      rintro e w7 ⟨rfl, hb7⟩
      have hl7 := hb7.size
      have hbw7 := hbw6.trans (hb7.mono (by omega))
      go_wp2_with fail
      refine (rows_any _ _ _ _ _ _ ls ls w7 (hr3.below hb7) (hR.below hbw7)).mono ?_
      rintro e w8 ⟨rfl, nd, hw8⟩
      have hb8 : Below w7.heap.size w7 w8 := by rw [hw8]; exact below_drewN (Below.refl _ _) nd
      clear hw8
      have hbw8 := hbw7.trans (hb8.mono (by omega))
      have hbt : (ls == ls) = true := by simp
      rw [hbt]
      obtain ⟨a9, c9, hs9, hr9⟩ := run_take88 ((hr6.below hb7).below hb8) ls.length (by simp)
      have e9 : (ls ++ (scan r).1).take ls.length = ls := List.take_left
      rw [e9] at hr9
      clear e9
      generalize hq : (scan r).1 = q at *
      generalize hq2 : (scan r).2 = q2 at *
      have hlq : (ls ++ q).length = ls.length + q.length := by simp
      rw [hlq] at hs9
      clear hq hq2 hlq hbt
      go_wp2_with fail
      refine (rows_any _ _ _ _ _ _ ls ls w8 hr9 (hR.below hbw8)).mono ?_
      rintro e w10 ⟨rfl, nd, hw8⟩
      have hb10 : Below w8.heap.size w8 w10 := by rw [hw8]; exact below_drewN (Below.refl _ _) nd
      clear hw8
      have hbt : (ls == ls) = true := by simp
      rw [hbt]
      have hl8 := hb8.size
      have hbw10 := hbw8.trans (hb10.mono (by omega))
      go_wp2
      go_ret
      exact ⟨rfl, hbw10⟩
    · have d2 : decide ((20000 : Int) < r.length) = true := by simp; omega
      rw [hf]
      clear hf
      go_wp2_with fail
      refine (firstT _).mono ?_
      rintro e w2 ⟨rfl, hb2⟩
      go_wp2
      go_ret
      exact ⟨rfl, hb1.trans (hb2.mono hl1)⟩
  · have hf : fewB ls = false := by simpa using hf
    rw [hf]
    clear hf
    go_wp2_with fail
    refine (firstT _).mono ?_
    rintro e w2 ⟨rfl, hb2⟩
    go_wp2
    go_ret
    exact ⟨rfl, hb1.trans (hb2.mono hl1)⟩
end Go.Proofs.Ytcdbgekjjjbjbaa
