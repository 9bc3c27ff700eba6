import Derived.Test.YtcdbgekjjjbjbaaF7
import Derived.BigRegion
import Derived.Deep.DeepCutAuto
namespace Go.Proofs.Ytcdbgekjjjbjbaa
open Go.RowKit
attribute [local go_sem] n8_xor
theorem shl_one (yk : IntKind) (y : Int) (h0 : 0 ≤ y) (h8 : y < 8) : Op.shift .shl .u8 1 yk y = pure (.int .u8 (n8 (1 <<< UInt8.ofNat y.toNat))) := sh8_shl 1 yk y h0 h8
theorem crc_nil : crc [] = 0 := by decide
theorem mask_ne (k : Nat) (h : k < 8) (x : UInt8) : x ^^^ (1 <<< UInt8.ofNat k) ≠ x := by
  intro e
  have e2 : x ^^^ (1 <<< UInt8.ofNat k) = x ^^^ 0 := by rw [e]; simp
  have e3 := (UInt8.xor_right_inj x).1 e2
  have : ∀ k : Fin 8, (1 : UInt8) <<< UInt8.ofNat k.1 ≠ 0 := by decide
  exact this ⟨k, h⟩ e3

theorem mask_eq (k : Nat) (h : k < 8) : ((2 : Int) ^ k) % (256 : Int) = n8 (1 <<< UInt8.ofNat k) := by
  have : ∀ k : Fin 8, ((2 : Int) ^ k.1) % (256 : Int) = n8 (1 <<< UInt8.ofNat k.1) := by decide
  exact this ⟨k, h⟩
theorem set_B8 (l : List UInt8) (i : Nat) (y : UInt8) : (B8 l).set i (.int .u8 (n8 y)) = B8 (l.set i y) := by simp [B8, List.map_set]

set_option maxHeartbeats 1600000 in
theorem sums_walk (a : Option Addr) (n cap : Nat) (l : List UInt8) (at_ bit : Int) (w : World) (h : Rd8 w a n cap l) (ba : -9223372036854775808 ≤ at_ ∧ at_ ≤ 9223372036854775807) (bb : -9223372036854775808 ≤ bit ∧ bit ≤ 9223372036854775807) : Calls Try.prog 9 #[.slice a n cap, .int .i64 at_, .int .i64 bit] w (TrueEnd w) := by
  have hrd := h
  obtain ⟨rfl, hr⟩ := h
  have hm := hr.2.1
  have hnc := hr.1
  unfold maxLen at hm
  go_enter Try.func9, Try.ntmps9
  go_wp2_with fail
  refine (firstT _).mono ?_
  rintro e w1 ⟨rfl, hb1⟩
  have hl1 := hb1.size
  by_cases hbig : l.length ≤ 20000 ∧ l.length ≠ 0
  · obtain ⟨h1, h0⟩ := hbig
    have hd : decide ((20000 : Int) < l.length) = false := by simp; omega
    have hz : ((l.length : Int) == 0) = false := beq_eq_false_iff_ne.2 (by omega)
    have hz' : (l == []) = false := by cases l <;> simp at h0 ⊢
    have hpos : 0 < l.length := by omega
    clear h0
    go_upto_if 24 with fail
    go_cut [1] (fun s1 wx => (∃ A : Nat, s1 = .int .i64 A ∧ (A : Int) ≤ 9223372036854775807) ∧ wx = w1)
    case first =>
      by_cases hn : at_ < 0
      · have hn' : decide (at_ < 0) = true := by simp; omega
        go_wp2
        go_meet
        exact ⟨⟨(-(at_ + 1)).toNat, by congr 1; omega, by omega⟩, rfl⟩
      · have hn' : decide (at_ < 0) = false := by simp; omega
        go_wp2
        go_meet
        exact ⟨⟨at_.toNat, by congr 1; omega, by omega⟩, rfl⟩
    case rest =>
      obtain ⟨⟨A, rfl, hA⟩, hwc⟩ := hcut
      have hwc := hwc.symm
      subst hwc
      go_upto_if 29 with fail
      go_cut [2] (fun s1 wx => (∃ B : Nat, s1 = .int .i64 B ∧ (B : Int) ≤ 9223372036854775807) ∧ wx = w1)
      case first =>
        by_cases hn : bit < 0
        · have hn' : decide (bit < 0) = true := by simp; omega
          go_wp2
          go_meet
          exact ⟨⟨(-(bit + 1)).toNat, by congr 1; omega, by omega⟩, rfl⟩
        · have hn' : decide (bit < 0) = false := by simp; omega
          go_wp2
          go_meet
          exact ⟨⟨bit.toNat, by congr 1; omega, by omega⟩, rfl⟩
      case rest =>
        obtain ⟨⟨B, rfl, hB⟩, hwc⟩ := hcut
        have hwc := hwc.symm
        subst hwc
        go_wp2_with fail
        refine (copyBytes_any _ _ _ l w1 (hrd.below hb1) (by omega)).mono ?_
        rintro e w2 ⟨v2, rfl, hown2, hb2⟩
        have hl2 := hb2.size
        have hbw2 := hb1.trans (hb2.mono hl1)
        have hrw := hrd.below hbw2
        rcases hown2.2 with ⟨rfl, h00⟩ | ⟨g, cp, cur, rfl, hbg, hg, hnc2, hcm2, hcs2, ht2⟩
        · omega
        have hlt : A % l.length < l.length := Nat.mod_lt _ hpos
        have hcell : w2.cell? ⟨g, A % l.length, none⟩ = some (.int .u8 (n8 (l.getD (A % l.length) 0))) := by
          have h3 := World.ownsRow.cellAt (w := w2) (g := g) (cap := cp) (n := l.length) (xs := B8 l) hown2 (A % l.length) (by omega)
          rw [h3]; exact B8_get _ _ hlt
        have hfr := World.ownsRow.frozenAt (w := w2) (g := g) (cap := cp) (n := l.length) (xs := B8 l) hown2 (A % l.length)
        have m0 : (0 : Int) ≤ (A : Int) % l.length := Int.emod_nonneg _ (by omega)
        have m1 : (A : Int) % l.length < l.length := Int.emod_lt_of_pos _ (by omega)
        have b0 : (0 : Int) ≤ (B : Int) % 8 := by omega
        have b1 : (B : Int) % 8 < 8 := by omega
        have b2 : IntKind.u64.wrap ((B : Int) % 8) = (B : Int) % 8 := IntWalk.u64_in _ (by omega)
        have hsh := fun yk => shl_one yk ((B : Int) % 8) b0 b1
        have hex : l.getD (A % l.length) 0 = l[A % l.length] := by simp [List.getD, hlt]
        have Hex := Lib.hid hex; clear hex
        go_wp2_with fail
        go_region
        go_wp2_with fail
        rw [mask_eq (B % 8) (Nat.mod_lt _ (by omega)), n8_xor]
        have Hne : Hid (crc (l.set (A % l.length) (l[A % l.length] ^^^ 1 <<< UInt8.ofNat (B % 8))) ≠ crc l) := crc_set l _ hlt _ (by rw [Hex.out]; exact mask_ne _ (Nat.mod_lt _ (by omega)) _)
        generalize l[A % l.length] ^^^ 1 <<< UInt8.ofNat (B % 8) = y at *
        have hst := (World.ownsRow.stored (w := w2) (g := g) (cap := cp) (n := l.length) (xs := B8 l) hown2 (A % l.length) (.int .u8 (n8 y))).1
        rw [set_B8] at hst
        have hown3 : Own8 ((w2.setCell ⟨g, A % l.length, none⟩ (.int .u8 (n8 y))).drew) w1.heap.size 5 _ (l.set (A % l.length) y) := Own8.mk hst.drew (by simp) rfl
        have hb3 : Below w1.heap.size w2 ((w2.setCell ⟨g, A % l.length, none⟩ (.int .u8 (n8 y))).drew) := ((Below.refl _ _).setCell hbg _).drew
        generalize (w2.setCell ⟨g, A % l.length, none⟩ (.int .u8 (n8 y))).drew = w3 at *
        generalize hc : l.set (A % l.length) y = c at *
        have hcl : c.length = l.length := by rw [← hc]; simp
        have Hcl := Lib.hid hcl
        clear hst hc hcell hfr hg ht2 hcl hsh b2
        have hl3 := hb3.size
        have hbw3 : Below w.heap.size w w3 := hbw2.trans (hb3.mono (by omega))
        obtain ⟨a3, c3, hv3, hr3⟩ := hown3.rd
        rw [Hcl.out] at hv3 hr3
        simp only [Value.slice.injEq, true_and] at hv3
        obtain ⟨rfl, rfl⟩ := hv3
        refine (firstT _).mono ?_
        rintro e w4 ⟨rfl, hb4⟩
        have hl4 := hb4.size
        go_wp2_with fail
        refine (sum_any _ _ _ l w4 (hrd.below (hbw3.trans (hb4.mono (by omega)))) (by omega)).mono ?_
        rintro e w5 ⟨rfl, hb5⟩
        have hb35 := hb4.trans (hb5.mono hl4)
        have hl5 := hb35.size
        go_wp2_with fail
        refine (sum_any _ _ _ c w5 (hr3.below hb35) (by rw [Hcl.out]; omega)).mono ?_
        rintro e w6 ⟨rfl, hb6⟩
        have hb36 := hb35.trans (hb6.mono hl5)
        have hl6 := hb36.size
        have hne : (n32 (crc l) != n32 (crc c)) = true := by rw [bne_iff_ne]; exact fun e => Hne.out (n32_inj.1 e).symm
        have hne' : (n32 (crc l) == n32 (crc c)) = false := by rw [beq_eq_false_iff_ne]; exact fun e => Hne.out (n32_inj.1 e).symm
        go_wp2_with fail
        refine (sum_any _ _ _ l w6 (hrd.below (hbw3.trans (hb36.mono (by omega)))) (by omega)).mono ?_
        rintro e w7 ⟨rfl, hb7⟩
        have hb37 := hb36.trans (hb7.mono hl6)
        have hl7 := hb37.size
        go_wp2_with fail
        refine (copyBytes_any _ _ _ l w7 (hrd.below (hbw3.trans (hb37.mono (by omega)))) (by omega)).mono ?_
        rintro e w8 ⟨v8, rfl, hown8, hb8⟩
        obtain ⟨a8, c8, rfl, hr8⟩ := hown8.rd
        have hl8 := hb8.size
        go_wp2_with fail
        refine (sum_any _ _ _ l w8 hr8 (by omega)).mono ?_
        rintro e w9 ⟨rfl, hb9⟩
        go_wp2
        go_ret
        exact ⟨rfl, ((hbw3.trans (hb37.mono (by omega))).trans (hb8.mono (by omega))).trans (hb9.mono (by omega))⟩
  · by_cases h1 : l.length ≤ 20000
    · have h0 : l.length = 0 := by
        rcases Nat.eq_zero_or_pos l.length with h | h
        · exact h
        · exact absurd ⟨h1, by omega⟩ hbig
      have hd : decide ((20000 : Int) < l.length) = false := by simp; omega
      have hz : ((l.length : Int) == 0) = true := beq_iff_eq.2 (by omega)
      clear hbig
      have hc0 : (n32 (crc []) == 0) = true := by decide
      go_wp2_with fail
      refine (firstT _).mono ?_
      rintro e w2 ⟨rfl, hb2⟩
      have hl2 := hb2.size
      go_wp2_with fail
      refine (sum_any none 0 0 [] w2 ⟨rfl, Rd.nil _ _⟩ (by simp)).mono ?_
      rintro e w3 ⟨rfl, hb3⟩
      go_wp2
      go_ret
      exact ⟨rfl, (hb1.trans (hb2.mono hl1)).trans (hb3.mono (by omega))⟩
    · have hd : decide ((20000 : Int) < l.length) = true := by simp; omega
      clear hbig
      have hc0 : (n32 (crc []) == 0) = true := by decide
      go_wp2_with fail
      refine (firstT _).mono ?_
      rintro e w2 ⟨rfl, hb2⟩
      have hl2 := hb2.size
      go_wp2_with fail
      refine (sum_any none 0 0 [] w2 ⟨rfl, Rd.nil _ _⟩ (by simp)).mono ?_
      rintro e w3 ⟨rfl, hb3⟩
      go_wp2
      go_ret
      exact ⟨rfl, (hb1.trans (hb2.mono hl1)).trans (hb3.mono (by omega))⟩
end Go.Proofs.Ytcdbgekjjjbjbaa
