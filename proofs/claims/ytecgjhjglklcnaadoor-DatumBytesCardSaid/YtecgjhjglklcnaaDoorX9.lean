/-
  The walk of the reader's number.
-/
import Derived.Test.YtecgjhjglklcnaaDoorX8
import Derived.Lib.Zigzag
namespace Go.Proofs.YtecgjhjglklcnaaDoor
set_option maxRecDepth 100000
open Go.RowKit Go.Shelf Go.Sort
attribute [local go_sem] bs_size bs_get bs_toList frombits tobits run_store_float
def numV (l : List UInt8) (i : Nat) : Value :=
  if rdE (l.drop i) = 0 then .tuple #[.int .i64 (rdN (l.drop i)), .int .i64 ((i + (endOf (l.drop i) + 1) : Nat) : Int), .bool true] else .tuple #[.int .i64 0, .int .i64 (i : Int), .bool false]
def errP (l : List UInt8) (i : Nat) : Int := if rdE (l.drop i) = 5 then (l.length : Int) else (i : Int)
/-- What number does. -/
def NumPost (w : World) (p : Nat) (a : Option Addr) (cap : Nat) (l : List UInt8) (i0 q : Int) (i : Nat) (e : Ending) (w' : World) : Prop :=
  e = .returned (numV l i) ∧ (rdE (l.drop i) = 0 → RDone w p a cap l i0 0 q w') ∧ (rdE (l.drop i) ≠ 0 → RDone w p a cap l i0 (rdE (l.drop i)) (errP l i) w')
theorem numpost_bad {w w' : World} {p : Nat} {a : Option Addr} {cap : Nat} {l : List UInt8} {i0 q : Int} {i : Nat} {er : Int} (hE : rdE (l.drop i) = er) (h0 : er ≠ 0) (h : RDone w p a cap l i0 er (if er = 5 then (l.length : Int) else (i : Int)) w') :
    NumPost w p a cap l i0 q i (.returned (.tuple #[.int .i64 0, .int .i64 (i : Int), .bool false])) w' := by
  refine ⟨?_, fun h1 => absurd (hE.symm.trans h1) h0, fun _ => ?_⟩
  · unfold numV; rw [hE, if_neg h0]
  · unfold errP; rw [hE]; exact h
theorem numpost_ok {w w' : World} {p : Nat} {a : Option Addr} {cap : Nat} {l : List UInt8} {i0 q : Int} {i : Nat} (hE : rdE (l.drop i) = 0) (h : RDone w p a cap l i0 0 q w') {n nx : Int} (hn : n = rdN (l.drop i)) (hx : nx = ((i + (endOf (l.drop i) + 1) : Nat) : Int)) :
    NumPost w p a cap l i0 q i (.returned (.tuple #[.int .i64 n, .int .i64 nx, .bool true])) w' := by
  refine ⟨?_, fun _ => h, fun h1 => absurd hE h1⟩
  unfold numV; rw [hE, if_pos rfl, hn, hx]
theorem getD_drop (l : List UInt8) (i k : Nat) : (l.drop i).getD k 0 = l.getD (i + k) 0 := by simp [List.getD]
theorem and127_n8 (c : UInt8) : bits .and .u8 (n8 c) 127 = n8 (c &&& 127) := n8_and c 127
theorem and1_n64 (u : UInt64) : bits .and .u64 (n64 u) 1 = n64 (u &&& 1) := n64_and u 1
theorem u_half (u : UInt64) : IntKind.i64.wrap (n64 (u >>> 1)) = ((u.toNat / 2 : Nat) : Int) := by
  have h := u.toNat_lt
  have e : (u >>> 1).toNat = u.toNat / 2 := by rw [UInt64.toNat_shiftRight, show (1 : UInt64).toNat % 64 = 1 from rfl, Nat.shiftRight_eq_div_pow]
  unfold n64; rw [e]; exact IntWalk.i64_in _ (by omega)
theorem u_odd (u : UInt64) : (n64 (u &&& 1) == 1) = decide (u.toNat % 2 = 1) := by
  unfold n64
  rw [UInt64.toNat_and, show (1 : UInt64).toNat = 2 ^ 1 - 1 from rfl, Nat.and_two_pow_sub_one_eq_mod, Bool.eq_iff_iff]
  simp; omega
theorem not_i64 (H : Nat) (h : H < 9223372036854775808) : Op.unary .xor (.int .i64 (H : Int)) = pure (.int .i64 (-(H : Int) - 1)) := by
  have e : (if IntKind.i64.signed then (-1 : Int) else IntKind.i64.max) = -1 := by decide
  rw [unary_xor, intBits_xor, e, Lib.i64_not H h]
theorem stU_succ (m : List UInt8) (k : Nat) : stU m (k + 1) = if (stU m k).2 || (decide (9 < k) || (decide (k = 9) && decide (1 < (m.getD k 0).toNat % 128))) then ((stU m k).1, true)
    else ((stU m k).1 ||| ((m.getD k 0 &&& 127).toUInt64 <<< UInt64.ofNat (7 * k)), false) := rfl
theorem n8_c127 (c : UInt8) : decide ((1 : Int) < n8 (c &&& 127)) = decide (1 < c.toNat % 128) := by
  unfold n8; rw [and127, Bool.eq_iff_iff]; simp; omega
set_option maxHeartbeats 4000000 in
theorem rnum_any (i : Nat) (p : Nat) (a : Option Addr) (cap : Nat) (l : List UInt8) (hl : l.length ≤ 1000000) (hi : i ≤ l.length) (i0 q : Int) (w : World) (h : Rr w p a cap l i0 0 q) :
    Calls Tryd.prog 105 #[.pointer (some ⟨p, 0, none⟩), .int .i64 (i : Int)] w (NumPost w p a cap l i0 q i) := by
  have HR := Lib.hid h
  obtain ⟨h0, h1, h2, h3, f1, f2, f3, hrd, _⟩ := h
  have hpl : p < w.heap.size := World.block_lt_of_cell? w _ h0
  have HRD := Lib.hid hrd
  obtain ⟨n, hn⟩ : ∃ n, l.length = n := ⟨_, rfl⟩
  have HN := Lib.hid hn
  rw [hn] at hl hi h0
  clear hn hrd
  go_enter Tryd.func105, Tryd.ntmps105
  go_wp2_with fail
  go_loop [7, 8, 9] (fun u o j => ∃ k : Nat, i + k ≤ n ∧ j = .int .i64 ((i : Int) + (k : Int)) ∧ u = .int .u64 (n64 (stU (l.drop i) k).1) ∧ o = .bool (stU (l.drop i) k).2 ∧ Hid (∀ j, j < k → 128 ≤ ((l.drop i).getD j 0).toNat)) (fun _ _ j => n - (intOf j).toNat)
  case atStart => exact ⟨0, by omega, by simp, rfl, rfl, fun j hj => absurd hj (Nat.not_lt_zero _)⟩
  case round =>
    obtain ⟨k, hk, rfl, rfl, rfl, HA⟩ := hrel
    have hk0 : (i : Int) + (k : Int) - (i : Int) = (k : Int) := by omega
    by_cases hlt : i + k < n
    · obtain ⟨b, off, ha, hbl, hcell⟩ := HRD.out.at (by rw [HN.out]; omega)
      subst ha
      have hc0 := hcell (i + k) (by rw [HN.out]; exact hlt)
      clear hcell
      obtain ⟨c, hc⟩ : ∃ c, l.getD (i + k) 0 = c := ⟨_, rfl⟩
      rw [hc] at hc0
      have HC : Hid ((l.drop i).getD k 0 = c) := by rw [getD_drop]; exact hc
      clear hc
      obtain ⟨u, hu⟩ : ∃ u, (stU (l.drop i) k).1 = u := ⟨_, rfl⟩
      obtain ⟨ov, ho⟩ : ∃ o, (stU (l.drop i) k).2 = o := ⟨_, rfl⟩
      have HS0 := Lib.hid (stU_succ (l.drop i) k)
      rw [hu, ho, HC.out] at HS0
      rw [hu, ho]
      clear hu ho
      have q1 := and127_n8 c
      have q2 := n8_to64 (c &&& 127)
      obtain ⟨Y, hY⟩ : ∃ Y, (c &&& 127).toUInt64 = Y := ⟨_, rfl⟩
      rw [hY] at q2 HS0
      clear hY
      obtain ⟨Z, hZ⟩ : ∃ Z, Y <<< UInt64.ofNat (7 * k) = Z := ⟨_, rfl⟩
      have HQ4 : Hid (k ≤ 9 → IntKind.u64.wrap (n64 Y * (2 : Int) ^ (7 * k)) = n64 Z) := fun h => by rw [← hZ]; exact n64_shl Y (7 * k) (by omega)
      rw [hZ] at HS0
      clear hZ
      have q5 := n64_or u Z
      have q6 := n8_c127 c
      have hgrp : (ov = true ∨ (ov = false ∧ 9 < k) ∨ (ov = false ∧ k = 9 ∧ 1 < c.toNat % 128)) ∨ ((ov = false ∧ k = 9 ∧ ¬ 1 < c.toNat % 128) ∨ (ov = false ∧ k < 9)) := by
        cases ov with
        | true => exact .inl (.inl rfl)
        | false =>
          by_cases x1 : 9 < k
          · exact .inl (.inr (.inl ⟨rfl, x1⟩))
          · by_cases x2 : k = 9
            · by_cases x3 : 1 < c.toNat % 128
              · exact .inl (.inr (.inr ⟨rfl, x2, x3⟩))
              · exact .inr (.inl ⟨rfl, x2, x3⟩)
            · exact .inr (.inr ⟨rfl, by omega⟩)
      rcases hgrp with hT | hF
      · have HS : Hid (stU (l.drop i) (k + 1) = (u, true)) := by
          rw [HS0.out]
          refine if_pos ?_
          rcases hT with h | ⟨h, h2⟩ | ⟨h, h2, h3⟩
          · rw [h]; rfl
          · rw [h, decide_eq_true h2]; rfl
          · rw [h, decide_eq_true h2, decide_eq_true h3]; simp
        clear HS0 q5 q2
        by_cases h8 : 128 ≤ c.toNat
        · have hd : decide (128 ≤ n8 c) = true := decide_eq_true (by unfold n8; omega)
          have HA2 : Hid (∀ j, j < k + 1 → 128 ≤ ((l.drop i).getD j 0).toNat) := fun j hj => by rcases Nat.lt_succ_iff_lt_or_eq.1 hj with h | h; exact HA.out j h; rw [h, HC.out]; exact h8
          clear h8
          rcases hT with rfl | ⟨rfl, h2⟩ | ⟨rfl, h2, h3⟩
          · go_wp2
            go_round
            case rel => exact ⟨k + 1, by omega, by go_num, by rw [HS.out], by rw [HS.out], HA2.out⟩
            case measure => simp [intOf]; omega
          · go_wp2
            go_round
            case rel => exact ⟨k + 1, by omega, by go_num, by rw [HS.out], by rw [HS.out], HA2.out⟩
            case measure => simp [intOf]; omega
          · have k9 : ((k : Int) == 9) = true := by rw [beq_iff_eq]; omega
            have k10 : decide (9 < (k : Int)) = false := decide_eq_false (by omega)
            have H2 := Lib.hid h2
            rw [decide_eq_true h3] at q6
            clear h2 h3
            go_wp2
            go_round
            case rel => exact ⟨k + 1, by omega, by go_num, by rw [HS.out], by rw [HS.out], HA2.out⟩
            case measure => simp [intOf]; omega
        · have hd : decide (128 ≤ n8 c) = false := decide_eq_false (by unfold n8; omega)
          have hend : endOf (l.drop i) = k := (endOf_at (l.drop i) k HA.out (by rw [List.length_drop, HN.out]; omega)).1 (by rw [List.length_drop, HN.out]; omega) (by rw [HC.out]; omega)
          have hr := rdE_last (m := l.drop i) (by rw [hend, List.length_drop, HN.out]; omega)
          rw [hend, HS.out, HC.out] at hr
          have hE : rdE (l.drop i) = 4 := by rw [hr.1]; rfl
          have HE := Lib.hid hE
          clear hE hr hend h8
          rcases hT with rfl | ⟨rfl, h2⟩ | ⟨rfl, h2, h3⟩
          · go_wp2_with (go_at_call 97; ((with_reducible refine (fail_any 4 _ rfl p _ _ _ _ _ _ HR.out).mono ?_); rintro e w' ⟨rfl, hdn⟩; have HD := Lib.hid hdn; clear hdn))
            go_ret3
            exact numpost_bad HE.out (by decide) HD.out
          · go_wp2_with (go_at_call 97; ((with_reducible refine (fail_any 4 _ rfl p _ _ _ _ _ _ HR.out).mono ?_); rintro e w' ⟨rfl, hdn⟩; have HD := Lib.hid hdn; clear hdn))
            go_ret3
            exact numpost_bad HE.out (by decide) HD.out
          · have k9 : ((k : Int) == 9) = true := by rw [beq_iff_eq]; omega
            have k10 : decide (9 < (k : Int)) = false := decide_eq_false (by omega)
            rw [decide_eq_true h3] at q6
            clear h2 h3
            go_wp2_with (go_at_call 97; ((with_reducible refine (fail_any 4 _ rfl p _ _ _ _ _ _ HR.out).mono ?_); rintro e w' ⟨rfl, hdn⟩; have HD := Lib.hid hdn; clear hdn))
            go_ret3
            exact numpost_bad HE.out (by decide) HD.out
      · have HS : Hid (stU (l.drop i) (k + 1) = (u ||| Z, false)) := by
          rw [HS0.out]
          refine if_neg ?_
          rcases hF with ⟨h, h2, h3⟩ | ⟨h, h2⟩
          · rw [h, decide_eq_false (show ¬ 9 < k by omega), decide_eq_false h3]; simp
          · rw [h, decide_eq_false (show ¬ 9 < k by omega), decide_eq_false (show ¬ k = 9 by omega)]; simp
        clear HS0
        by_cases h8 : 128 ≤ c.toNat
        · have hd : decide (128 ≤ n8 c) = true := decide_eq_true (by unfold n8; omega)
          have HA2 : Hid (∀ j, j < k + 1 → 128 ≤ ((l.drop i).getD j 0).toNat) := fun j hj => by rcases Nat.lt_succ_iff_lt_or_eq.1 hj with h | h; exact HA.out j h; rw [h, HC.out]; exact h8
          clear h8
          rcases hF with ⟨rfl, h2, h3⟩ | ⟨rfl, h2⟩
          · have k9 : ((k : Int) == 9) = true := by rw [beq_iff_eq]; omega
            have k10 : decide (9 < (k : Int)) = false := decide_eq_false (by omega)
            have H2 := Lib.hid h2
            rw [decide_eq_false h3] at q6
            clear h2 h3
            have Z0 := HQ4.out (by first | omega | (have := H2.out; omega))
            go_wp2
            go_round
            case rel => exact ⟨k + 1, by omega, by go_num, by rw [HS.out], by rw [HS.out], HA2.out⟩
            case measure => simp [intOf]; omega
          · have k9 : ((k : Int) == 9) = false := by rw [beq_eq_false_iff_ne]; omega
            have k10 : decide (9 < (k : Int)) = false := decide_eq_false (by omega)
            have Z0 := HQ4.out (by first | omega | (have := H2.out; omega))
            go_wp2
            go_round
            case rel => exact ⟨k + 1, by omega, by go_num, by rw [HS.out], by rw [HS.out], HA2.out⟩
            case measure => simp [intOf]; omega
        · have hd : decide (128 ≤ n8 c) = false := decide_eq_false (by unfold n8; omega)
          have hend : endOf (l.drop i) = k := (endOf_at (l.drop i) k HA.out (by rw [List.length_drop, HN.out]; omega)).1 (by rw [List.length_drop, HN.out]; omega) (by rw [HC.out]; omega)
          have hr := rdE_last (m := l.drop i) (by rw [hend, List.length_drop, HN.out]; omega)
          rw [hend, HS.out, HC.out] at hr
          rcases hF with ⟨rfl, h2, h3⟩ | ⟨rfl, h2⟩
          · have k9 : ((k : Int) == 9) = true := by rw [beq_iff_eq]; omega
            have k10 : decide (9 < (k : Int)) = false := decide_eq_false (by omega)
            have H2 := Lib.hid h2
            rw [decide_eq_false h3] at q6
            clear h2 h3
            have Z0 := HQ4.out (by first | omega | (have := H2.out; omega))
            have hz : ((n8 c == 0) = true ∧ decide (0 < k) = true ∧ rdE (l.drop i) = 4) ∨ (((n8 c == 0) = false ∨ ((n8 c == 0) = true ∧ decide (0 < k) = false)) ∧ rdE (l.drop i) = 0) := by
              rw [hr.1]
              by_cases z1 : c.toNat = 0
              · have e1 : (n8 c == 0) = true := by unfold n8; rw [beq_iff_eq]; omega
                by_cases z2 : 0 < k
                · exact .inl ⟨e1, decide_eq_true z2, by simp [z1, z2]⟩
                · exact .inr ⟨.inr ⟨e1, decide_eq_false z2⟩, by simp [z2]⟩
              · exact .inr ⟨.inl (by unfold n8; rw [beq_eq_false_iff_ne]; omega), by simp [z1]⟩
            have hval := hr.2 rfl
            generalize hu1 : u ||| Z = u1 at *
            have HV1 := Lib.hid hval
            have HEND := Lib.hid hend
            clear hval hr hend h8 hu1 HS
            rcases hz with ⟨z1, z2, z3⟩ | ⟨z1, z3⟩
            · have HE := Lib.hid z3
              clear z3
              go_wp2_with (go_at_call 97; ((with_reducible refine (fail_any 4 _ rfl p _ _ _ _ _ _ HR.out).mono ?_); rintro e w' ⟨rfl, hdn⟩; have HD := Lib.hid hdn; clear hdn))
              go_ret3
              exact numpost_bad HE.out (by decide) HD.out
            · have HE := Lib.hid z3
              have HR0 := Lib.hid (RDone.same HR.out)
              have hnn := n64_nn u1
              have hnl := n64_le u1
              have hh3 := and1_n64 u1
              have hh4 := u_odd u1
              have hH : u1.toNat / 2 < 9223372036854775808 := by have := u1.toNat_lt; omega
              have hhe : n64 u1 / (2 : Int) = ((u1.toNat / 2 : Nat) : Int) := by unfold n64; omega
              have hh5 : bits .xor .i64 (-1) (n64 u1 / (2 : Int)) = -(n64 u1 / (2 : Int)) - 1 := by rw [hhe]; exact Lib.i64_not _ hH
              have HNX : Hid ((i : Int) + (k : Int) + 1 = ((i + (endOf (l.drop i) + 1) : Nat) : Int)) := by rw [HEND.out]; show _ = _; omega
              clear z3 hH
              by_cases ho1 : u1.toNat % 2 = 1
              · have HU : Hid (-(n64 u1 / (2 : Int)) - 1 = rdN (l.drop i)) := by rw [hhe]; unfold rdN; rw [HE.out, if_pos rfl, ← HV1.out]; unfold unzz; rw [if_pos ho1]; exact rfl
                rw [decide_eq_true ho1] at hh4
                clear ho1
                clear hhe
                rcases z1 with z1 | ⟨z1, z2⟩
                · go_wp2
                  go_ret3
                  exact numpost_ok HE.out HR0.out HU.out HNX.out
                · go_wp2
                  go_ret3
                  exact numpost_ok HE.out HR0.out HU.out HNX.out
              · have HU : Hid (n64 u1 / (2 : Int) = rdN (l.drop i)) := by rw [hhe]; unfold rdN; rw [HE.out, if_pos rfl, ← HV1.out]; unfold unzz; rw [if_neg ho1]; exact rfl
                rw [decide_eq_false ho1] at hh4
                clear ho1
                clear hhe
                rcases z1 with z1 | ⟨z1, z2⟩
                · go_wp2
                  go_ret3
                  exact numpost_ok HE.out HR0.out HU.out HNX.out
                · go_wp2
                  go_ret3
                  exact numpost_ok HE.out HR0.out HU.out HNX.out
          · have k9 : ((k : Int) == 9) = false := by rw [beq_eq_false_iff_ne]; omega
            have k10 : decide (9 < (k : Int)) = false := decide_eq_false (by omega)
            have Z0 := HQ4.out (by first | omega | (have := H2.out; omega))
            have hz : ((n8 c == 0) = true ∧ decide (0 < k) = true ∧ rdE (l.drop i) = 4) ∨ (((n8 c == 0) = false ∨ ((n8 c == 0) = true ∧ decide (0 < k) = false)) ∧ rdE (l.drop i) = 0) := by
              rw [hr.1]
              by_cases z1 : c.toNat = 0
              · have e1 : (n8 c == 0) = true := by unfold n8; rw [beq_iff_eq]; omega
                by_cases z2 : 0 < k
                · exact .inl ⟨e1, decide_eq_true z2, by simp [z1, z2]⟩
                · exact .inr ⟨.inr ⟨e1, decide_eq_false z2⟩, by simp [z2]⟩
              · exact .inr ⟨.inl (by unfold n8; rw [beq_eq_false_iff_ne]; omega), by simp [z1]⟩
            have hval := hr.2 rfl
            generalize hu1 : u ||| Z = u1 at *
            have HV1 := Lib.hid hval
            have HEND := Lib.hid hend
            clear hval hr hend h8 hu1 HS
            rcases hz with ⟨z1, z2, z3⟩ | ⟨z1, z3⟩
            · have HE := Lib.hid z3
              clear z3
              go_wp2_with (go_at_call 97; ((with_reducible refine (fail_any 4 _ rfl p _ _ _ _ _ _ HR.out).mono ?_); rintro e w' ⟨rfl, hdn⟩; have HD := Lib.hid hdn; clear hdn))
              go_ret3
              exact numpost_bad HE.out (by decide) HD.out
            · have HE := Lib.hid z3
              have HR0 := Lib.hid (RDone.same HR.out)
              have hnn := n64_nn u1
              have hnl := n64_le u1
              have hh3 := and1_n64 u1
              have hh4 := u_odd u1
              have hH : u1.toNat / 2 < 9223372036854775808 := by have := u1.toNat_lt; omega
              have hhe : n64 u1 / (2 : Int) = ((u1.toNat / 2 : Nat) : Int) := by unfold n64; omega
              have hh5 : bits .xor .i64 (-1) (n64 u1 / (2 : Int)) = -(n64 u1 / (2 : Int)) - 1 := by rw [hhe]; exact Lib.i64_not _ hH
              have HNX : Hid ((i : Int) + (k : Int) + 1 = ((i + (endOf (l.drop i) + 1) : Nat) : Int)) := by rw [HEND.out]; show _ = _; omega
              clear z3 hH
              by_cases ho1 : u1.toNat % 2 = 1
              · have HU : Hid (-(n64 u1 / (2 : Int)) - 1 = rdN (l.drop i)) := by rw [hhe]; unfold rdN; rw [HE.out, if_pos rfl, ← HV1.out]; unfold unzz; rw [if_pos ho1]; exact rfl
                rw [decide_eq_true ho1] at hh4
                clear ho1
                clear hhe
                rcases z1 with z1 | ⟨z1, z2⟩
                · go_wp2
                  go_ret3
                  exact numpost_ok HE.out HR0.out HU.out HNX.out
                · go_wp2
                  go_ret3
                  exact numpost_ok HE.out HR0.out HU.out HNX.out
              · have HU : Hid (n64 u1 / (2 : Int) = rdN (l.drop i)) := by rw [hhe]; unfold rdN; rw [HE.out, if_pos rfl, ← HV1.out]; unfold unzz; rw [if_neg ho1]; exact rfl
                rw [decide_eq_false ho1] at hh4
                clear ho1
                clear hhe
                rcases z1 with z1 | ⟨z1, z2⟩
                · go_wp2
                  go_ret3
                  exact numpost_ok HE.out HR0.out HU.out HNX.out
                · go_wp2
                  go_ret3
                  exact numpost_ok HE.out HR0.out HU.out HNX.out
    · have hkn : i + k = n := by omega
      have hml : (l.drop i).length = k := by rw [List.length_drop, HN.out]; omega
      have hE : Hid (rdE (l.drop i) = 5) := by
        have h1 := (endOf_at (l.drop i) k HA.out (by omega)).2
        have h2 := endOf_le (l.drop i)
        show rdE (l.drop i) = 5
        unfold rdE; rw [if_pos (by omega)]
      have hd : decide ((i : Int) + (k : Int) < (n : Int)) = false := decide_eq_false (by omega)
      clear hkn hml
      go_wp2_with (go_at_call 97; ((with_reducible refine (fail_any 5 _ rfl p _ _ _ _ _ _ HR.out).mono ?_); rintro e w' ⟨rfl, hdn⟩; have HD := Lib.hid hdn; clear hdn))
      go_ret3
      exact numpost_bad hE.out (by decide) (by rw [if_pos rfl, HN.out]; exact HD.out)
end Go.Proofs.YtecgjhjglklcnaaDoor
