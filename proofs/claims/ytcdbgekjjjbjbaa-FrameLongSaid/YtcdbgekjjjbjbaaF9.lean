import Derived.Test.YtcdbgekjjjbjbaaF6
import Derived.Deep.DeepCutAuto
namespace Go.Proofs.Ytcdbgekjjjbjbaa
open Go.RowKit
theorem B8_replicate (n : Nat) : List.replicate n (Value.int .u8 0) = B8 (List.replicate n 0) := by
  rw [B8, List.map_replicate]; rfl

set_option maxHeartbeats 1600000 in
theorem long_walk (n : Int) (x : UInt8) (w : World) (bn : -9223372036854775808 ≤ n ∧ n ≤ 9223372036854775807) : Calls Try.prog 4 #[.int .i64 n, .int .u8 (n8 x)] w (TrueEnd w) := by
  go_enter Try.func4, Try.ntmps4
  go_wp2_with fail
  refine (firstT _).mono ?_
  rintro e w1 ⟨rfl, hb1⟩
  have hl1 := hb1.size
  have ht : -5 < n.tmod 5 ∧ n.tmod 5 < 5 := by
    have := Int.tmod_def n 5
    have h1 : n.tmod 5 = n - 5 * n.tdiv 5 := Int.tmod_def n 5
    rcases Int.le_total 0 n with h | h
    · rw [Int.tmod_eq_emod_of_nonneg h]; omega
    · have : n.tmod 5 = -((-n).tmod 5) := by rw [Int.neg_tmod]; omega
      rw [this, Int.tmod_eq_emod_of_nonneg (by omega)]; omega
  go_upto_if 15 with fail
  go_cut [5] (fun s5 wx => (∃ K : Nat, s5 = .int .i64 K ∧ K ≤ 4) ∧ wx = w1)
  case first =>
    generalize n.tmod 5 = q at *
    by_cases hn : q < 0
    · have hn' : decide (q < 0) = true := by simp; omega
      go_wp2
      go_meet
      exact ⟨⟨(-q).toNat, by congr 1; omega, by omega⟩, rfl⟩
    · have hn' : decide (q < 0) = false := by simp; omega
      go_wp2
      go_meet
      exact ⟨⟨q.toNat, by congr 1; omega, by omega⟩, rfl⟩
  case rest =>
    obtain ⟨⟨K, rfl, hK⟩, hwc⟩ := hcut
    have hwc := hwc.symm
    subst hwc
    clear ht
    go_wp2_with (refine wpList_mkfull S8 rfl (.tmp 19) (.tmp 19) rfl w1.heap.size (262142 + K) rfl rfl rfl (by omega) (by unfold maxLen; omega) (Nat.le_refl _) ?_; intro w2 hown2 hb2)
    rw [B8_replicate] at hown2
    have hown2 := Own8.mk hown2 (by simp) rfl
    have hl2 := hb2.size
    have hbw2 := hb1.trans (hb2.mono hl1)
    have hm0 : (List.replicate (262142 + K) (0 : UInt8)).length = 262142 + K := by simp
    generalize List.replicate (262142 + K) (0 : UInt8) = c0 at *
    generalize w1.heap.size = g at *
    have Hm0 := Lib.hid hm0; clear hm0
    go_loopw [7] (fun i wr => ∃ (k : Nat) (c : List UInt8), k ≤ 262142 + K ∧ i = .int .i64 k ∧ Hid (c.length = 262142 + K) ∧ Own8 wr g 5 (.slice (some ⟨g, 0, none⟩) (262142 + K) (262142 + K)) c ∧ Below g w2 wr) (fun i _ => 262142 + K - (intOf i).toNat)
    case atStart => exact ⟨0, c0, Nat.zero_le _, rfl, Hm0, hown2, Below.refl _ _⟩
    case round =>
      obtain ⟨k, c, hk, rfl, hcl, hown, hbel⟩ := hrel
      by_cases hlt : k < 262142 + K
      · have hcell : wr.cell? ⟨g, k, none⟩ = some (.int .u8 (n8 (c.getD k 0))) := by
          have h3 := World.ownsRow.cellAt (w := wr) (g := g) (cap := 262142 + K) (n := 262142 + K) (xs := B8 c) (by have := hown; unfold Own8 at this; rw [hcl.out] at this; exact this) k (by omega)
          rw [h3]; exact B8_get _ _ (by rw [hcl.out]; exact hlt)
        have hfr := World.ownsRow.frozenAt (w := wr) (g := g) (cap := 262142 + K) (n := 262142 + K) (xs := B8 c) (by have := hown; unfold Own8 at this; rw [hcl.out] at this; exact this) k
        have hst := (World.ownsRow.stored (w := wr) (g := g) (cap := 262142 + K) (n := 262142 + K) (xs := B8 c) (by have := hown; unfold Own8 at this; rw [hcl.out] at this; exact this) k (.int .u8 (n8 x))).1
        have hst2 := Own8.mk (l := c.set k x) hst (by rw [List.length_set, hcl.out]) (by simp [B8, List.map_set])
        have hb3 := hbel.setCell (p := ⟨g, k, none⟩) (Nat.le_refl _) (.int .u8 (n8 x))
        clear hst hown
        go_wp2
        go_roundw
        case rel => exact ⟨k + 1, c.set k x, by omega, by go_num, (by rw [List.length_set]; exact hcl), hst2, hb3⟩
        case measure => simp [intOf]; omega
      · have hr := hown.rd
        obtain ⟨a3, c3, hv3, hr3⟩ := hr
        rw [hcl.out] at hv3 hr3
        simp only [Value.slice.injEq, true_and] at hv3
        obtain ⟨rfl, rfl⟩ := hv3
        have hbs := hbel.size
        have hbw := hbw2.trans (hbel.mono hl1)
        clear hown
        go_wp2_with fail
        refine (frame_any _ _ _ c wr hr3).mono ?_
        rintro e w4 ⟨v4, hb4, h | h⟩
        · obtain ⟨hle, rfl, hown4⟩ := h
          rw [hcl.out] at hle
          obtain ⟨a4, c4, rfl, hr4⟩ := hown4.rd
          have hfl : (frameOf c).length = 262142 + K + 12 := by rw [frameOf_length, hcl.out]
          have Hfl := Lib.hid hfl; clear hfl hown4
          have d1 : decide ((262144 : Int) < 262142 + K) = false := by simp; omega
          have d2 : (((frameOf c).length : Int) == 262142 + K + 12) = true := by rw [Hfl.out]; simp
          go_wp2_with fail
          refine (firstT _).mono ?_
          rintro e w5 ⟨rfl, hb5⟩
          go_wp2
          go_ret
          exact ⟨rfl, (hbw.trans (hb4.mono (by omega))).trans (hb5.mono (by have := hb4.size; omega))⟩
        · obtain ⟨hle, rfl⟩ := h
          rw [hcl.out] at hle
          have d1 : decide ((262144 : Int) < 262142 + K) = true := by simp; omega
          go_wp2_with fail
          refine (firstT _).mono ?_
          rintro e w5 ⟨rfl, hb5⟩
          go_wp2
          go_ret
          exact ⟨rfl, (hbw.trans (hb4.mono (by omega))).trans (hb5.mono (by have := hb4.size; omega))⟩
end Go.Proofs.Ytcdbgekjjjbjbaa
