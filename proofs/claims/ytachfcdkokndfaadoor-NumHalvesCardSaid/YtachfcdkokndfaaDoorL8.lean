/-
  The walk of the law NumEnds.
-/
import Derived.Test.YtachfcdkokndfaaDoorL5
namespace Go.Proofs.YtachfcdkokndfaaDoor
open Go.RowKit Go.Shelf Go.Sort

/-! ### Least and most, by the ranks -/
def rk (x : UInt64) : Nat := (rankOf x).toNat
theorem rk_least (x y : UInt64) : rk (leastOf x y) = min (rk x) (rk y) := by
  unfold leastOf rk
  rcases cmp_cases x y with ⟨h1, h2⟩ | ⟨h1, h2⟩ | ⟨h1, h2⟩
  · rw [if_neg (by omega), rank_canon]; omega
  · rw [if_neg (by omega), rank_canon]; omega
  · rw [if_pos (by omega), rank_canon]; omega
theorem rk_most (x y : UInt64) : rk (mostOf x y) = max (rk x) (rk y) := by
  unfold mostOf rk
  rcases cmp_cases x y with ⟨h1, h2⟩ | ⟨h1, h2⟩ | ⟨h1, h2⟩
  · rw [if_pos (by omega), rank_canon]; omega
  · rw [if_neg (by omega), rank_canon]; omega
  · rw [if_neg (by omega), rank_canon]; omega
theorem rk_eq {x y : UInt64} : rk x = rk y ↔ canon x = canon y := by
  unfold rk; rw [← u_eq_lit, rank_inj]
/-- Of the row, and not above the numbers from i on up to j. -/
def LowOf (l : List UInt64) (i j : Nat) (a : UInt64) : Prop := (∃ p, p < l.length ∧ rk a = rk (l.getD p 0)) ∧ ∀ p, i ≤ p → p < j → rk a ≤ rk (l.getD p 0)
def HighOf (l : List UInt64) (i j : Nat) (a : UInt64) : Prop := (∃ p, p < l.length ∧ rk a = rk (l.getD p 0)) ∧ ∀ p, i ≤ p → p < j → rk (l.getD p 0) ≤ rk a
theorem LowOf.up {l : List UInt64} {k : Nat} {a : UInt64} (h : LowOf l 0 k a) (hk : k < l.length) : LowOf l 0 (k + 1) (leastOf a (l.getD k 0)) := by
  obtain ⟨⟨p, hp, he⟩, h2⟩ := h
  refine ⟨?_, fun q hq1 hq2 => ?_⟩
  · rw [rk_least]
    rcases Nat.le_total (rk a) (rk (l.getD k 0)) with hc | hc
    · exact ⟨p, hp, by omega⟩
    · exact ⟨k, hk, by omega⟩
  · rw [rk_least]
    by_cases hqk : q = k
    · subst hqk; omega
    · have := h2 q hq1 (by omega); omega
theorem HighOf.up {l : List UInt64} {k : Nat} {a : UInt64} (h : HighOf l 0 k a) (hk : k < l.length) : HighOf l 0 (k + 1) (mostOf a (l.getD k 0)) := by
  obtain ⟨⟨p, hp, he⟩, h2⟩ := h
  refine ⟨?_, fun q hq1 hq2 => ?_⟩
  · rw [rk_most]
    rcases Nat.le_total (rk a) (rk (l.getD k 0)) with hc | hc
    · exact ⟨k, hk, by omega⟩
    · exact ⟨p, hp, by omega⟩
  · rw [rk_most]
    by_cases hqk : q = k
    · subst hqk; omega
    · have := h2 q hq1 (by omega); omega
theorem LowOf.down {l : List UInt64} {k : Nat} {a : UInt64} (h : LowOf l (l.length - k) l.length a) (hk : k < l.length) : LowOf l (l.length - (k + 1)) l.length (leastOf (l.getD (l.length - 1 - k) 0) a) := by
  obtain ⟨⟨p, hp, he⟩, h2⟩ := h
  refine ⟨?_, fun q hq1 hq2 => ?_⟩
  · rw [rk_least]
    rcases Nat.le_total (rk a) (rk (l.getD (l.length - 1 - k) 0)) with hc | hc
    · exact ⟨p, hp, by omega⟩
    · exact ⟨_, by omega, Nat.min_eq_left hc⟩
  · rw [rk_least]
    by_cases hqk : q = l.length - 1 - k
    · subst hqk; omega
    · have := h2 q (by omega) hq2; omega
theorem HighOf.down {l : List UInt64} {k : Nat} {a : UInt64} (h : HighOf l (l.length - k) l.length a) (hk : k < l.length) : HighOf l (l.length - (k + 1)) l.length (mostOf (l.getD (l.length - 1 - k) 0) a) := by
  obtain ⟨⟨p, hp, he⟩, h2⟩ := h
  refine ⟨?_, fun q hq1 hq2 => ?_⟩
  · rw [rk_most]
    rcases Nat.le_total (rk a) (rk (l.getD (l.length - 1 - k) 0)) with hc | hc
    · exact ⟨_, by omega, Nat.max_eq_left hc⟩
    · exact ⟨p, hp, by omega⟩
  · rw [rk_most]
    by_cases hqk : q = l.length - 1 - k
    · subst hqk; omega
    · have := h2 q (by omega) hq2; omega
theorem low_eq {l : List UInt64} {a b : UInt64} (h1 : LowOf l 0 l.length a) (h2 : LowOf l 0 l.length b) : canon a = canon b := by
  obtain ⟨⟨p, hp, hpe⟩, h1⟩ := h1
  obtain ⟨⟨q, hq, hqe⟩, h2⟩ := h2
  apply rk_eq.1
  have a1 := h1 q (Nat.zero_le _) hq
  have a2 := h2 p (Nat.zero_le _) hp
  omega
theorem high_eq {l : List UInt64} {a b : UInt64} (h1 : HighOf l 0 l.length a) (h2 : HighOf l 0 l.length b) : canon a = canon b := by
  obtain ⟨⟨p, hp, hpe⟩, h1⟩ := h1
  obtain ⟨⟨q, hq, hqe⟩, h2⟩ := h2
  apply rk_eq.1
  have a1 := h1 q (Nat.zero_le _) hq
  have a2 := h2 p (Nat.zero_le _) hp
  omega
/-- The state of the first loop. -/
structure Ends (l : List UInt64) (k : Nat) (a b c d : UInt64) : Prop where
  la : LowOf l 0 k a
  lb : LowOf l (l.length - k) l.length b
  hc : HighOf l 0 k c
  hd : HighOf l (l.length - k) l.length d
theorem Ends.start {l : List UInt64} (h : 0 < l.length) : Ends l 0 (l.getD 0 0) (l.getD (l.length - 1) 0) (l.getD 0 0) (l.getD (l.length - 1) 0) :=
  ⟨⟨⟨0, h, rfl⟩, fun p _ hp => absurd hp (Nat.not_lt_zero _)⟩, ⟨⟨_, by omega, rfl⟩, fun p h1 h2 => by omega⟩, ⟨⟨0, h, rfl⟩, fun p _ hp => absurd hp (Nat.not_lt_zero _)⟩, ⟨⟨_, by omega, rfl⟩, fun p h1 h2 => by omega⟩⟩
theorem Ends.step {l : List UInt64} {k : Nat} {a b c d : UInt64} (h : Ends l k a b c d) (hk : k < l.length) :
    Ends l (k + 1) (leastOf a (l.getD k 0)) (leastOf (l.getD (l.length - 1 - k) 0) b) (mostOf c (l.getD k 0)) (mostOf (l.getD (l.length - 1 - k) 0) d) :=
  ⟨h.la.up hk, h.lb.down hk, h.hc.up hk, h.hd.down hk⟩
/-- Was it met among the first k? -/
def metB (l : List UInt64) (a : UInt64) : Nat → Bool
  | 0 => false
  | k + 1 => metB l a k || (cmpOf a (l.getD k 0) == 0)
theorem met_of (l : List UInt64) (a : UInt64) (k p : Nat) (hp : p < k) (h : rk a = rk (l.getD p 0)) : metB l a k = true := by
  induction k with
  | zero => omega
  | succ k ih =>
    show (metB l a k || _) = true
    by_cases hpk : p = k
    · subst hpk
      have : cmpOf a (l.getD p 0) = 0 := (cmp_zero _ _).2 (rk_eq.1 h)
      rw [this]; simp
    · rw [ih (by omega)]; rfl

set_option maxHeartbeats 2000000 in
theorem numEnds_main (a : Option Addr) (n cap : Nat) (l : List UInt64) (w : World) (hT : Laid w) (hR : RdF w a n cap l) (h : l.length ≤ 2000) (h0 : 0 < l.length) : Calls Tryd.prog 11 #[.slice a n cap] w fun e w' => e = .returned (.bool true) ∧ Below w.heap.size w w' := by
  have hrd := hR
  obtain ⟨rfl, hr⟩ := hR
  have hm := hr.2.1
  have hnc := hr.1
  unfold maxLen at hm
  have hz : ((l.length : Int) == 0) = false := beq_eq_false_iff_ne.2 (by omega)
  have HS := Lib.hid (Ends.start h0)
  go_enter Tryd.func11, Tryd.ntmps11
  go_wp2_with fail
  go_at_call 15
  refine (first_any _ hT).mono ?_
  rintro e w1 ⟨rfl, hb1⟩
  have hrd1 := hrd.below hb1
  obtain ⟨b, off, rfl, hb, hc⟩ := hrd1.at h0
  have hc0 := hc 0 h0
  have hcn := hc (l.length - 1) (by omega)
  rw [Nat.add_zero] at hc0
  have HC := Lib.hid hc
  clear hc hr
  generalize l.getD 0 0 = x0 at *
  generalize l.getD (l.length - 1) 0 = xn at *
  have i0 : (0 : Int) < (l.length : Int) := by omega
  have i1 : (0 : Int) ≤ (l.length : Int) - 1 := by omega
  have i2 : (l.length : Int) - 1 < (l.length : Int) := by omega
  have e1 : IntKind.i64.wrap ((l.length : Int) - 1) = (l.length : Int) - 1 := IntWalk.i64_in _ (by omega)
  have e2 : ((l.length : Int) - 1).toNat = l.length - 1 := by omega
  go_wp2_with fail
  go_quiet (fail)
  go_wp2_with fail
  go_quiet (fail)
  clear e1 e2 i1 i2
  go_wp2_with fail
  go_loopw [3, 4, 5, 6, 7] (fun v3 v4 v5 v6 i wr => ∃ (k : Nat) (a b c d : UInt64), k ≤ l.length ∧ i = .int .i64 k ∧ v3 = .float .f64 (fb a) ∧ v4 = .float .f64 (fb b) ∧ v5 = .float .f64 (fb c) ∧ v6 = .float .f64 (fb d) ∧ Hid (Ends l k a b c d) ∧ Below w1.heap.size w1 wr) (fun _ _ _ _ i _ => l.length - (intOf i).toNat)
  case atStart => exact ⟨0, x0, xn, x0, xn, Nat.zero_le _, rfl, rfl, rfl, rfl, rfl, HS, below_drewN (below_drewN (Below.refl _ _) _) _⟩
  case round =>
    obtain ⟨k, a, b1, c, d, hk, rfl, rfl, rfl, rfl, rfl, HE, hbr⟩ := hrel
    have hbc : ∀ o, wr.cell? ⟨b, o, none⟩ = w1.cell? ⟨b, o, none⟩ := fun o => hbr.cell (p := ⟨b, o, none⟩) hb
    by_cases hlt : k < l.length
    · have hcell : wr.cell? ⟨b, off + k, none⟩ = some (.float .f64 (fb (l.getD k 0))) := by rw [hbc]; exact HC.out k hlt
      have hcell2 : wr.cell? ⟨b, off + (l.length - 1 - k), none⟩ = some (.float .f64 (fb (l.getD (l.length - 1 - k) 0))) := by rw [hbc]; exact HC.out _ (by omega)
      have HE2 := Lib.hid (HE.out.step hlt)
      clear hbc hc0 hcn HE
      generalize l.getD k 0 = xk at *
      generalize l.getD (l.length - 1 - k) 0 = yk at *
      go_wp2_with (first | (go_at_call 36; ((with_reducible refine (least_any _ _ _).mono ?_); rintro e w' ⟨rfl, rfl⟩)) | (go_at_call 37; ((with_reducible refine (most_any _ _ _).mono ?_); rintro e w' ⟨rfl, rfl⟩)))
      go_roundw
      case rel => exact ⟨k + 1, _, _, _, _, by omega, by go_num, rfl, rfl, rfl, rfl, HE2, hbr⟩
      case measure => simp [intOf]; omega
    · have hkn : k = l.length := by omega
      have HE2 : Hid (Ends l l.length a b1 c d) := by rw [← hkn]; exact HE
      clear HE
      subst hkn
      clear hbc
      have hlt' : decide ((l.length : Int) < (l.length : Int)) = false := by simp
      clear hlt'
      go_wp2_with fail
      obtain ⟨wo, rfl⟩ : ∃ wo : World, wo = wr := ⟨_, rfl⟩
      go_loopw [8, 9] (fun v8 i wx => ∃ k : Nat, k ≤ l.length ∧ i = .int .i64 k ∧ v8 = .bool (metB l a k) ∧ Below w1.heap.size w1 wx) (fun _ i _ => l.length - (intOf i).toNat)
      case atStart => exact ⟨0, Nat.zero_le _, rfl, rfl, hbr⟩
      case round =>
        obtain ⟨k, hk, rfl, rfl, hbx⟩ := hrel
        have hbc : ∀ o, wr.cell? ⟨b, o, none⟩ = w1.cell? ⟨b, o, none⟩ := fun o => hbx.cell (p := ⟨b, o, none⟩) hb
        by_cases hlt : k < l.length
        · have hcell : wr.cell? ⟨b, off + k, none⟩ = some (.float .f64 (fb (l.getD k 0))) := by rw [hbc]; exact HC.out k hlt
          have HS2 : Hid (metB l a (k + 1) = (metB l a k || (cmpOf a (l.getD k 0) == 0))) := rfl
          have g1 : decide (0 < cmpOf a (l.getD k 0)) = false := decide_eq_false (by have := HE2.out.la.2 k (Nat.zero_le _) hlt; have := (cmp_le a (l.getD k 0)).2 this; omega)
          have g2 : decide (0 < cmpOf (l.getD k 0) c) = false := decide_eq_false (by have := HE2.out.hc.2 k (Nat.zero_le _) hlt; have := (cmp_le (l.getD k 0) c).2 this; omega)
          clear hbc hc0 hcn
          generalize l.getD k 0 = xk at *
          cases hm1 : metB l a k with
          | true =>
            have HS3 : Hid (metB l a (k + 1) = true) := by rw [HS2.out, hm1]; exact rfl
            clear HS2 hm1
            go_wp2_with (go_at_call 33; ((with_reducible refine (compare_any _ _ _).mono ?_); rintro e w' ⟨rfl, rfl⟩))
            go_roundw
            case rel => exact ⟨k + 1, by omega, by go_num, by rw [HS3.out], hbx⟩
            case measure => simp [intOf]; omega
          | false =>
            cases hq : (cmpOf a xk == 0) with
            | true =>
              have HS3 : Hid (metB l a (k + 1) = true) := by rw [HS2.out, hq, hm1]; exact rfl
              clear HS2 hm1
              go_wp2_with (go_at_call 33; ((with_reducible refine (compare_any _ _ _).mono ?_); rintro e w' ⟨rfl, rfl⟩))
              go_roundw
              case rel => exact ⟨k + 1, by omega, by go_num, by rw [HS3.out], hbx⟩
              case measure => simp [intOf]; omega
            | false =>
              have HS3 : Hid (metB l a (k + 1) = false) := by rw [HS2.out, hq, hm1]; exact rfl
              clear HS2 hm1
              go_wp2_with (go_at_call 33; ((with_reducible refine (compare_any _ _ _).mono ?_); rintro e w' ⟨rfl, rfl⟩))
              go_roundw
              case rel => exact ⟨k + 1, by omega, by go_num, by rw [HS3.out], hbx⟩
              case measure => simp [intOf]; omega
        · have hkn : k = l.length := by omega
          have hmt : metB l a k = true := by
            obtain ⟨p, hp, he⟩ := HE2.out.la.1
            rw [hkn]; exact met_of l a _ p hp he
          have hE3 := HE2.out
          have hla := hE3.la
          have hlb := hE3.lb
          have hhc := hE3.hc
          have hhd := hE3.hd
          rw [Nat.sub_self] at hlb hhd
          have HAB := Lib.hid (low_eq hla hlb)
          have HCD := Lib.hid (high_eq hhc hhd)
          clear hE3 hla hlb hhc hhd hbc
          have HBa : Hid (∀ W, Calls Tryd.prog 26 #[.float .f64 (fb a)] W fun e w' => e = .returned (.int .u64 (n64 (canon b1))) ∧ w' = W) := fun W => by rw [← HAB.out]; exact bitsF_any a W
          have HBb : Hid (∀ W, Calls Tryd.prog 26 #[.float .f64 (fb b1)] W fun e w' => e = .returned (.int .u64 (n64 (canon b1))) ∧ w' = W) := fun W => bitsF_any b1 W
          have HBc : Hid (∀ W, Calls Tryd.prog 26 #[.float .f64 (fb c)] W fun e w' => e = .returned (.int .u64 (n64 (canon d))) ∧ w' = W) := fun W => by rw [← HCD.out]; exact bitsF_any c W
          have HBd : Hid (∀ W, Calls Tryd.prog 26 #[.float .f64 (fb d)] W fun e w' => e = .returned (.int .u64 (n64 (canon d))) ∧ w' = W) := fun W => bitsF_any d W
          have hbw := hb1.trans (hbx.mono hb1.size)
          rw [hmt]
          clear hmt
          go_wp2_with fail
          go_at_call 15
          refine (first_any _ (hT.below hbw)).mono ?_
          rintro e w4 ⟨rfl, hb4⟩
          have hbw4 := hbw.trans (hb4.mono hbw.size)
          clear hb4
          go_wp2_with (first | (go_at_call 26; ((with_reducible refine (HBa.out _).mono ?_); rintro e w' ⟨rfl, rfl⟩)) | (go_at_call 26; ((with_reducible refine (HBb.out _).mono ?_); rintro e w' ⟨rfl, rfl⟩)) | (go_at_call 26; ((with_reducible refine (HBc.out _).mono ?_); rintro e w' ⟨rfl, rfl⟩)) | (go_at_call 26; ((with_reducible refine (HBd.out _).mono ?_); rintro e w' ⟨rfl, rfl⟩)))
          go_ret
          exact ⟨rfl, hbw4⟩
set_option maxHeartbeats 400000 in
theorem numEnds_walk (a : Option Addr) (n cap : Nat) (l : List UInt64) (w : World) (hT : Laid w) (hR : RdF w a n cap l) : Calls Tryd.prog 11 #[.slice a n cap] w fun e w' => e = .returned (.bool true) ∧ Below w.heap.size w w' := by
  by_cases h : l.length ≤ 2000 ∧ 0 < l.length
  · exact numEnds_main a n cap l w hT hR h.1 h.2
  · obtain ⟨rfl, hr⟩ := hR
    by_cases h2 : 2000 < l.length
    · clear h hr
      go_enter Tryd.func11, Tryd.ntmps11
      go_wp2_with fail
      go_at_call 15
      refine (first_any _ hT).mono ?_
      rintro e w1 ⟨rfl, hb⟩
      go_wp2_with fail
      go_at_call 15
      refine (first_any _ (hT.below hb)).mono ?_
      rintro e w2 ⟨rfl, hb2⟩
      go_wp2
      go_ret
      exact ⟨rfl, hb.trans (hb2.mono hb.size)⟩
    · have h3 : l.length = 0 := by omega
      rw [h3]
      clear h h2 hr h3
      go_enter Tryd.func11, Tryd.ntmps11
      go_wp2_with fail
      go_at_call 15
      refine (first_any _ hT).mono ?_
      rintro e w1 ⟨rfl, hb⟩
      go_wp2_with fail
      go_at_call 15
      refine (first_any _ (hT.below hb)).mono ?_
      rintro e w2 ⟨rfl, hb2⟩
      go_wp2
      go_ret
      exact ⟨rfl, hb.trans (hb2.mono hb.size)⟩
end Go.Proofs.YtachfcdkokndfaaDoor
