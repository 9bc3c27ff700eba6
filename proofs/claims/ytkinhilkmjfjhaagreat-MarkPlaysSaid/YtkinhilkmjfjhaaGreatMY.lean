/-
  The reference's reader: its number, plain part (X16 turned).
  The reference's reader: its number (X17 turned).
  The reference's reader: size, end (X18, X19 turned).
-/
import Derived.Test.YtkinhilkmjfjhaaGreatMZ
import Derived.Test.YtkinhilkmjfjhaaGreatK4
import Derived.Deep.DeepCutAuto
/-! ### The reference's reader: its number, plain part (X16 turned). -/
namespace Go.Proofs.YtkinhilkmjfjhaaGreat
set_option maxRecDepth 100000
open Go.RowKit
/-- The bytes of the group from place k on, as the reference's second loop gathers them. -/
theorem rU_at (g : List UInt8) (k : Nat) (hk : k < g.length) : rU (g.drop k) = (rU (g.drop (k + 1)) <<< 7) ||| (g.getD k 0 &&& 127).toUInt64 := by
  have e : g.drop k = g.getD k 0 :: g.drop (k + 1) := by
    rw [List.drop_eq_getElem_cons hk]; simp [List.getD, List.getElem?_eq_getElem hk]
  rw [e]; rfl
theorem grp_len {m : List UInt8} (h : endOf m < m.length) : (grp m).length = endOf m + 1 := by
  obtain ⟨g, c, e1, e2, _⟩ := endOf_spec m h
  rw [e1]; simp [e2]
theorem unzz_half (u : UInt64) : (if u.toNat % 2 = 1 then -((u.toNat / 2 : Nat) : Int) - 1 else ((u.toNat / 2 : Nat) : Int)) = unzz u.toNat := by
  unfold unzz; split <;> simp_all <;> omega
end Go.Proofs.YtkinhilkmjfjhaaGreat

/-! ### The reference's reader: its number (X17 turned). -/
namespace Go.Proofs.YtkinhilkmjfjhaaGreat
set_option maxRecDepth 100000
open Go.RowKit
attribute [local go_sem] bs_size bs_get bs_toList
/-- What the reference's Int does. -/
def RNumPost (w : World) (p : Nat) (a : Option Addr) (cap : Nat) (l : List UInt8) (q : Int) (i : Nat) (e : Ending) (w' : World) : Prop :=
  e = .returned (.int .i64 (rdN (l.drop i))) ∧ (rdE (l.drop i) = 0 → RDone w p a cap l ((i + (endOf (l.drop i) + 1) : Nat) : Int) 0 q w') ∧ (rdE (l.drop i) ≠ 0 → RDone w p a cap l i (rdE (l.drop i)) (errP l i) w')
theorem rnumpost_bad {w w' : World} {p : Nat} {a : Option Addr} {cap : Nat} {l : List UInt8} {q : Int} {i : Nat} {er : Int} (hE : rdE (l.drop i) = er) (h0 : er ≠ 0) (h : RDone w p a cap l i er (if er = 5 then (l.length : Int) else (i : Int)) w') :
    RNumPost w p a cap l q i (.returned (.int .i64 0)) w' := by
  refine ⟨?_, fun h1 => absurd (hE.symm.trans h1) h0, fun _ => ?_⟩
  · unfold rdN; rw [hE, if_neg h0]
  · unfold errP; rw [hE]; exact h
set_option maxHeartbeats 4000000 in
theorem refInt_any (i : Nat) (p : Nat) (a : Option Addr) (cap : Nat) (l : List UInt8) (hl : l.length ≤ 1000000) (hi : i ≤ l.length) (q : Int) (w : World) (h : Rr w p a cap l i 0 q) :
    Calls Tryz.prog 54 #[.pointer (some ⟨p, 0, none⟩)] w (RNumPost w p a cap l q i) := by
  have HR := Lib.hid h
  obtain ⟨h0, h1, h2, h3, f1, f2, f3, hrd, _⟩ := h
  have hpl : p < w.heap.size := World.block_lt_of_cell? w _ h0
  have HRD := Lib.hid hrd
  obtain ⟨n, hn⟩ : ∃ n, l.length = n := ⟨_, rfl⟩
  have HN := Lib.hid hn
  rw [hn] at hl hi h0
  clear hn hrd
  go_enter Tryz.func54, Tryz.ntmps54
  go_wp2_with fail
  go_loop [3] (fun j => ∃ k : Nat, i + k ≤ n ∧ j = .int .i64 ((i : Int) + (k : Int)) ∧ Hid (∀ j, j < k → 128 ≤ ((l.drop i).getD j 0).toNat)) (fun j => n - (intOf j).toNat)
  case atStart => exact ⟨0, by omega, by simp, fun j hj => absurd hj (Nat.not_lt_zero _)⟩
  case round =>
    obtain ⟨k, hk, rfl, HA⟩ := hrel
    by_cases hlt : i + k < n
    · obtain ⟨b, off, ha, hbl, hcell⟩ := HRD.out.at (by rw [HN.out]; omega)
      subst ha
      have hc0 := hcell (i + k) (by rw [HN.out]; exact hlt)
      clear hcell
      obtain ⟨c, hc⟩ : ∃ c, l.getD (i + k) 0 = c := ⟨_, rfl⟩
      rw [hc] at hc0
      have HC : Hid ((l.drop i).getD k 0 = c) := by rw [getD_drop]; exact hc
      clear hc
      by_cases h8 : 128 ≤ c.toNat
      · have hd : decide (128 ≤ n8 c) = true := decide_eq_true (by unfold n8; omega)
        have HA2 : Hid (∀ j, j < k + 1 → 128 ≤ ((l.drop i).getD j 0).toNat) := fun j hj => by rcases Nat.lt_succ_iff_lt_or_eq.1 hj with h | h; exact HA.out j h; rw [h, HC.out]; exact h8
        clear h8
        go_wp2
        go_round
        case rel => exact ⟨k + 1, by omega, by go_num, HA2.out⟩
        case measure => simp [intOf]; omega
      · have hd : decide (128 ≤ n8 c) = false := decide_eq_false (by unfold n8; omega)
        have hend : endOf (l.drop i) = k := (endOf_at (l.drop i) k HA.out (by rw [List.length_drop, HN.out]; omega)).1 (by rw [List.length_drop, HN.out]; omega) (by rw [HC.out]; omega)
        clear h8
        have hgl : (grp (l.drop i)).length = k + 1 := by rw [grp_len (by rw [hend, List.length_drop, HN.out]; omega), hend]
        have HGL := Lib.hid hgl
        have HEND := Lib.hid hend
        obtain ⟨g, hg⟩ : ∃ g, grp (l.drop i) = g := ⟨_, rfl⟩
        rw [hg] at HGL
        have HG := Lib.hid hg
        clear hgl hend hg
        go_wp2_with fail
        have HX : Hid ((k < 10 → (rdE (l.drop i) = 0 ↔ intB (unzz (rU g).toNat) = g) ∧ (rdE (l.drop i) = 0 → unzz (rU g).toNat = rdN (l.drop i))) ∧ (10 ≤ k → (rdE (l.drop i) = 0 ↔ intB (unzz (0 : UInt64).toNat) = g) ∧ (rdE (l.drop i) = 0 → unzz (0 : UInt64).toNat = rdN (l.drop i)))) := by
          have hlt2 : endOf (l.drop i) < (l.drop i).length := by rw [HEND.out, List.length_drop, HN.out]; omega
          refine ⟨fun h => ?_, fun h => ?_⟩
          · have := ref_ok hlt2 (by rw [HEND.out]; exact h)
            rw [HG.out] at this; exact this
          · have := ref_long hlt2 (by rw [HEND.out]; exact h)
            rw [HG.out] at this
            exact ⟨⟨fun e => absurd (this.1.symm.trans e) (by decide), fun e => absurd e this.2⟩, fun e => absurd (this.1.symm.trans e) (by decide)⟩
        go_loop [4, 5] (fun u j => ∃ m : Nat, m ≤ k + 1 ∧ j = .int .i64 ((i : Int) + (m : Int) - 1) ∧ u = .int .u64 (n64 (rU (g.drop m))) ∧ (k < 10 ∨ m = k + 1)) (fun _ j => (intOf j + 1 - (i : Int)).toNat)
        case atStart => exact ⟨k + 1, by omega, by go_num, by rw [List.drop_of_length_le (by rw [HGL.out]; omega)]; rfl, by omega⟩
        case round =>
          obtain ⟨m, hm, rfl, rfl, hk10⟩ := hrel
          by_cases hgo : 0 < m ∧ k < 10
          · obtain ⟨hm0, hk9⟩ := hgo
            obtain ⟨m, rfl⟩ : ∃ m', m = m' + 1 := ⟨m - 1, by omega⟩
            rw [show (i : Int) + ((m + 1 : Nat) : Int) - 1 = (i : Int) + (m : Int) by omega]
            obtain ⟨b, off, ha, hbl, hcell⟩ := HRD.out.at (by rw [HN.out]; omega)
            have hc0 := hcell (i + m) (by rw [HN.out]; omega)
            clear hcell
            obtain ⟨c, hc⟩ : ∃ c, l.getD (i + m) 0 = c := ⟨_, rfl⟩
            rw [hc] at hc0
            have hu := rU_at g m (by rw [HGL.out]; omega)
            rw [show g.getD m 0 = c by rw [← hc, ← HG.out, ← getD_drop]; unfold grp; rw [List.getD_eq_getElem?_getD, List.getD_eq_getElem?_getD, List.getElem?_take_of_lt (by rw [HEND.out]; omega)]] at hu
            have HU := Lib.hid hu
            clear hu hc
            obtain ⟨U, hU⟩ : ∃ U, rU (g.drop (m + 1)) = U := ⟨_, rfl⟩
            rw [hU] at HU
            rw [hU]
            clear hU
            have q1 := and127_n8 c
            have q2 := n8_to64 (c &&& 127)
            obtain ⟨Y, hY⟩ : ∃ Y, (c &&& 127).toUInt64 = Y := ⟨_, rfl⟩
            rw [hY] at q2 HU
            clear hY
            have q3 := sh64_shl U .u64 7 (by decide) (by decide)
            have q5 := n64_or (U <<< 7) Y
            try subst ha
            go_wp2
            go_round
            case rel => exact ⟨m, by omega, by go_num, by rw [HU.out]⟩
            case measure => simp [intOf]; omega
          · obtain ⟨x, hx, hv⟩ : ∃ x : UInt64, rU (g.drop m) = x ∧ Hid ((rdE (l.drop i) = 0 ↔ intB (unzz x.toNat) = g) ∧ (rdE (l.drop i) = 0 → unzz x.toNat = rdN (l.drop i))) := by
              refine ⟨_, rfl, ?_⟩
              by_cases h10 : k < 10
              · obtain rfl : m = 0 := by omega
                exact HX.out.1 h10
              · obtain rfl : m = k + 1 := by omega
                rw [show g.drop (k + 1) = [] from List.drop_of_length_le (by rw [HGL.out]; omega)]
                exact HX.out.2 (by omega)
            rw [hx]
            clear hx HX
            have hnn := n64_nn x
            have hnl := n64_le x
            have r1 := u_half x
            have r2 : (n64 x % (2 : Int) == 1) = decide (x.toNat % 2 = 1) := by unfold n64; rw [Bool.eq_iff_iff]; simp; omega
            have hH : x.toNat / 2 < 9223372036854775808 := by have := x.toNat_lt; omega
            have hm1 : (m = 0 ∨ (m = k + 1 ∧ 10 ≤ k)) := by omega
            have hlo : (0 : Int) ≤ ((x.toNat / 2 : Nat) : Int) := by omega
            have hw : IntKind.i64.wrap (-((x.toNat / 2 : Nat) : Int)) = -((x.toNat / 2 : Nat) : Int) := IntWalk.i64_in _ (by omega)
            have hw2 : IntKind.i64.wrap (-((x.toNat / 2 : Nat) : Int) - 1) = -((x.toNat / 2 : Nat) : Int) - 1 := IntWalk.i64_in _ (by omega)
            have hhe : n64 (x >>> 1) = ((x.toNat / 2 : Nat) : Int) := by unfold n64; rw [UInt64.toNat_shiftRight, show (1 : UInt64).toNat % 64 = 1 from rfl, Nat.shiftRight_eq_div_pow]
            have hhe2 : n64 x / (2 : Int) = ((x.toNat / 2 : Nat) : Int) := by unfold n64; omega
            have hzz : unzz x.toNat = if x.toNat % 2 = 1 then -((x.toNat / 2 : Nat) : Int) - 1 else ((x.toNat / 2 : Nat) : Int) := rfl
            generalize hZ : ((x.toNat / 2 : Nat) : Int) = Z at *
            obtain ⟨V, hV⟩ : ∃ V, unzz x.toNat = V := ⟨_, rfl⟩
            rw [hV] at hv
            have HV : Hid (V = if x.toNat % 2 = 1 then -Z - 1 else Z) := by show _ = _; rw [← hV]; exact hzz
            have hVb : -9223372036854775808 ≤ V ∧ V ≤ 9223372036854775807 := by rw [HV.out]; split <;> omega
            have HVV := Lib.hid hv
            have HHE := Lib.hid hH
            clear hV hzz hv
            obtain ⟨hm0, hkk⟩ : ∃ jj : Int, (i : Int) + (m : Int) - 1 = jj ∧ (k < 10 → jj < (i : Int)) := ⟨_, rfl, fun h => by omega⟩
            have HX2 : Hid (m = 0 ∨ (m = k + 1 ∧ 10 ≤ k)) := hm1
            rcases hm1 with rfl | ⟨rfl, hm2⟩
            case' inl =>
              go_upto_if 84 with fail
            case' inr =>
              go_upto_if 84 with fail
            all_goals
              clear hkk
              go_cut [6] (fun v wx => v = .int .i64 V ∧ w = wx)
              case first =>
                by_cases ho1 : x.toNat % 2 = 1
                · have hVV : V = -Z - 1 := by rw [HV.out, if_pos ho1]
                  subst hVV
                  clear HV HVV
                  go_wp2_with fail
                  go_meet
                  exact ⟨rfl, rfl⟩
                · have hVV : V = Z := by rw [HV.out, if_neg ho1]
                  subst hVV
                  clear HV HVV
                  go_wp2_with fail
                  go_meet
                  exact ⟨rfl, rfl⟩
              case rest =>
                obtain ⟨rfl, rfl⟩ := hcut
                have eg : (l.drop i).take (k + 1) = g := by rw [← HG.out]; unfold grp; rw [HEND.out]
                obtain ⟨aq, cq, hs, hrs⟩ := run_slice8 (P := Tryz.prog) S8 HRD.out (some (.int .i64 (i : Int))) (some (.int .i64 ((i : Int) + (k : Int) + 1))) i (i + k + 1) (.inr rfl) (.inr (by rw [Int.natCast_add, Int.natCast_add]; rfl)) (by omega) (by rw [HN.out]; omega)
                rw [show i + k + 1 - i = k + 1 by omega] at hs hrs
                rw [HN.out] at hs
                rw [eg] at hrs
                have HRS := Lib.hid hrs
                have hne5 : ¬ endOf (l.drop i) = (l.drop i).length := by rw [HEND.out, List.length_drop, HN.out]; omega
                have h04 : rdE (l.drop i) = 0 ∨ rdE (l.drop i) = 4 := by
                  unfold rdE
                  rw [if_neg hne5]
                  repeat' split
                  all_goals simp
                have H04 := Lib.hid h04
                have HE1 : Hid (((i + (endOf (l.drop i) + 1) : Nat) : Int) = (i : Int) + (k : Int) + 1) := by show _ = _; rw [HEND.out]; omega
                obtain ⟨hv0, hv1⟩ := hVb
                have o1 : IntKind.i64.wrap ((i : Int) + (k : Int) + 1) = (i : Int) + (k : Int) + 1 := IntWalk.i64_in _ (by omega)
                clear eg hrs hne5 h04
                go_wp2_with fail
                refine wp_region_ht 15 (fun W => Below w.heap.size w W ∧ W.cell? ⟨p, 0, none⟩ = some (.slice (some ⟨b, off, none⟩) n cap) ∧ W.cell? ⟨p, 1, none⟩ = some (.int .i64 (i : Int))) (by kernel_rfl) (by kernel_rfl) ?_ (fun hHeld => ?_)
                · exact ⟨(Below.refl _ _).drew, h0, h1⟩
                try simp only [Act.put, List.setIfInBounds_toArray, List.set_cons_zero, List.set_cons_succ]
                refine wpHT_takeD (i := 0) (d := 88) (v := ?_) (by kernel_rfl) rfl rfl (by decide) (by kernel_rfl) (by kernel_rfl) (fun _ _ _ h => h) (Or.inl ⟨by kernel_rfl, ?_⟩) (by assumption) ?_
                rotate_left
                · intro w hSw; (try dsimp only at hSw); go_simp; (try with_reducible rfl)
                try simp only [Act.put, List.setIfInBounds_toArray, List.set_cons_zero, List.set_cons_succ]
                refine wpHT_takeD (i := 3) (d := 91) (v := ?_) (by kernel_rfl) rfl rfl (by decide) (by kernel_rfl) (by kernel_rfl) (fun _ _ _ h => h) (Or.inl ⟨by kernel_rfl, ?_⟩) (by assumption) ?_
                rotate_left
                · intro w hSw; (try dsimp only at hSw); go_simp; (try with_reducible rfl)
                try simp only [Act.put, List.setIfInBounds_toArray, List.set_cons_zero, List.set_cons_succ]
                refine wpHT_takeD (i := 4) (d := 92) (v := ?_) (by kernel_rfl) rfl rfl (by decide) (by kernel_rfl) (by kernel_rfl) (fun _ _ _ h => h) (Or.inl ⟨by kernel_rfl, ?_⟩) (by assumption) ?_
                rotate_left
                · intro w hSw; (try dsimp only at hSw); go_simp; (try with_reducible rfl)
                try simp only [Act.put, List.setIfInBounds_toArray, List.set_cons_zero, List.set_cons_succ]
                refine wpHT_takeD (i := 5) (d := 93) (v := ?_) (by kernel_rfl) rfl rfl (by decide) (by kernel_rfl) (by kernel_rfl) (fun _ _ _ h => h) (Or.inl ⟨by kernel_rfl, ?_⟩) (by assumption) ?_
                rotate_left
                · intro w hSw; (try dsimp only at hSw); go_simp; (try with_reducible rfl)
                try simp only [Act.put, List.setIfInBounds_toArray, List.set_cons_zero, List.set_cons_succ]
                refine wpHT_takeD (i := 6) (d := 94) (v := ?_) (by kernel_rfl) rfl rfl (by decide) (by kernel_rfl) (by kernel_rfl) (fun _ _ _ h => h) (Or.inl ⟨by kernel_rfl, ?_⟩) (by assumption) ?_
                rotate_left
                · intro w hSw; (try dsimp only at hSw); go_simp; (try with_reducible rfl)
                try simp only [Act.put, List.setIfInBounds_toArray, List.set_cons_zero, List.set_cons_succ]
                refine wpHT_takeD (i := 7) (d := 95) (v := ?_) (by kernel_rfl) rfl rfl (by decide) (by kernel_rfl) (by kernel_rfl) (fun _ _ _ h => h) (Or.inl ⟨by kernel_rfl, ?_⟩) (by assumption) ?_
                rotate_left
                · intro w hSw; (try dsimp only at hSw); go_simp; (try with_reducible rfl)
                try simp only [Act.put, List.setIfInBounds_toArray, List.set_cons_zero, List.set_cons_succ]
                refine wpHT_takeD (i := 8) (d := 96) (v := ?_) (by kernel_rfl) rfl rfl (by decide) (by kernel_rfl) (by kernel_rfl) (fun _ _ _ h => h) (Or.inl ⟨by kernel_rfl, ?_⟩) (by assumption) ?_
                rotate_left
                · intro w hSw; (try dsimp only at hSw); go_simp; (try with_reducible rfl)
                try simp only [Act.put, List.setIfInBounds_toArray, List.set_cons_zero, List.set_cons_succ]
                refine wpHT_takeD (i := 9) (d := 97) (v := ?_) (by kernel_rfl) rfl rfl (by decide) (by kernel_rfl) (by kernel_rfl) (fun _ _ _ h => h) (Or.inl ⟨by kernel_rfl, ?_⟩) (by assumption) ?_
                rotate_left
                · intro w hSw; (try dsimp only at hSw); go_simp; (try with_reducible rfl)
                try simp only [Act.put, List.setIfInBounds_toArray, List.set_cons_zero, List.set_cons_succ]
                refine wpHT_takeD (i := 10) (d := 98) (v := ?_) (by kernel_rfl) rfl rfl (by decide) (by kernel_rfl) (by kernel_rfl) (fun _ _ _ h => h) (Or.inl ⟨by kernel_rfl, ?_⟩) (by assumption) ?_
                rotate_left
                · intro w hSw; (try dsimp only at hSw); go_simp; (try with_reducible rfl)
                try simp only [Act.put, List.setIfInBounds_toArray, List.set_cons_zero, List.set_cons_succ]
                refine wpHT_takeD (i := 11) (d := 99) (v := ?_) (by kernel_rfl) rfl rfl (by decide) (by kernel_rfl) (by kernel_rfl) (fun _ _ _ h => h) (Or.inl ⟨by kernel_rfl, ?_⟩) (by assumption) ?_
                rotate_left
                · intro w hSw; (try dsimp only at hSw); go_simp; (try with_reducible rfl)
                try simp only [Act.put, List.setIfInBounds_toArray, List.set_cons_zero, List.set_cons_succ]
                refine wpHT_takeD (i := 12) (d := 100) (v := ?_) (by kernel_rfl) rfl rfl (by decide) (by kernel_rfl) (by kernel_rfl) (fun _ _ _ h => h) (Or.inl ⟨by kernel_rfl, ?_⟩) (by assumption) ?_
                rotate_left
                · intro w hSw; (try dsimp only at hSw); go_simp; (try with_reducible rfl)
                try simp only [Act.put, List.setIfInBounds_toArray, List.set_cons_zero, List.set_cons_succ]
                refine wpHT_takeD (i := 13) (d := 101) (v := ?_) (by kernel_rfl) rfl rfl (by decide) (by kernel_rfl) (by kernel_rfl) (fun _ _ _ h => h) (Or.inl ⟨by kernel_rfl, ?_⟩) (by assumption) ?_
                rotate_left
                · intro w hSw; (try dsimp only at hSw); go_simp; (try with_reducible rfl)
                try simp only [Act.put, List.setIfInBounds_toArray, List.set_cons_zero, List.set_cons_succ]
                refine wpHT_takeD (i := 14) (d := 102) (v := ?_) (by kernel_rfl) rfl rfl (by decide) (by kernel_rfl) (by kernel_rfl) (fun _ _ _ h => h) (Or.inl ⟨by kernel_rfl, ?_⟩) (by assumption) ?_
                rotate_left
                · intro W' hSw; have kq := run_toStr (P := Tryz.prog) (HRS.out.below hSw.1) 36 5 9 Tryz.underlying36 Tryz.underlying5 Tryz.underlying9; go_simp; (try with_reducible rfl)
                try simp only [Act.put, List.setIfInBounds_toArray, List.set_cons_zero, List.set_cons_succ]
                refine wpHT_one (i := 1) (by kernel_rfl) rfl (by decide) (fun K hK => ?_)
                go_simp
                go_at_call 89
                refine (rInt_any V hv0 hv1 _).mono ?_
                rintro e w2 ⟨v2, rfl, ho2, hb2⟩
                obtain ⟨a2, c2, rfl, hr2⟩ := ho2.rd
                have hS2 : Below w.heap.size w w2 := ((Below.refl _ w).drew).trans hb2
                have q0 := (hS2.cell (p := ⟨p, 0, none⟩) hpl).trans h0
                have q1 := (hS2.cell (p := ⟨p, 1, none⟩) hpl).trans h1
                refine hK.out _ _ ?_ (fun hHeld => ?_)
                · exact ⟨hS2, q0, q1⟩
                clear hK K
                try simp only [Act.put, List.setIfInBounds_toArray, List.set_cons_zero, List.set_cons_succ]
                refine wpHT_one (i := 2) (by kernel_rfl) rfl (by decide) (fun K hK => ?_)
                have kv := run_toStr (P := Tryz.prog) hr2 36 5 9 Tryz.underlying36 Tryz.underlying5 Tryz.underlying9
                go_simp
                refine hK.out _ _ ?_ (fun hHeld => ?_)
                · exact ⟨hS2, q0, q1⟩
                clear kv
                clear hK K
                try simp only [Act.put, List.setIfInBounds_toArray, List.set_cons_zero, List.set_cons_succ]
                refine wpHT_done (by kernel_rfl) ?_
                simp only [List.drop_succ_cons, List.drop_zero]
                have HR2 := Lib.hid (HR.out.below hS2)
                obtain ⟨m0, m1, m2, m3, j1, j2, j3, _, _⟩ := HR.out.below hS2
                have HS2 := Lib.hid hS2
                clear hHeld ho2 hb2 hr2 hS2 h0 h1 h2 h3 f1 f2 f3 q0 q1 hs
                by_cases hq : intB V = g
                · have eq1 : (intB V == g) = true := by simpa using hq
                  have HE0 : Hid (rdE (l.drop i) = 0) := HVV.out.1.2 hq
                  have HVN : Hid (V = rdN (l.drop i)) := HVV.out.2 HE0.out
                  clear hq
                  go_wp2_with fail
                  go_ret
                  exact ⟨by rw [← HVN.out]; rfl, fun _ => by rw [HE1.out]; exact (RDone.next (Fr.of_new HS2.out) (RDone.same HR2.out)).setAt _, fun h => absurd HE0.out h⟩
                · have eq1 : (intB V == g) = false := by simpa using hq
                  have HE0 : Hid (rdE (l.drop i) = 4) := H04.out.resolve_left fun h => hq (HVV.out.1.1 h)
                  clear hq
                  go_wp2_with (go_at_call 95; ((with_reducible refine (stop_any 4 _ p _ _ _ _ _ _ HR2.out).mono ?_); rintro e w' ⟨rfl, hdn⟩; have HD := Lib.hid hdn; clear hdn))
                  go_ret
                  exact rnumpost_bad HE0.out (by decide) (by rw [if_neg (by decide)]; exact RDone.next (Fr.of_new HS2.out) HD.out)
    · obtain rfl : n = i + k := by omega
      have hend : endOf (l.drop i) = (l.drop i).length := by
        have h1 := (endOf_at (l.drop i) k HA.out (by rw [List.length_drop, HN.out]; omega)).2
        have h2 := endOf_le (l.drop i)
        rw [List.length_drop, HN.out] at h2 ⊢
        omega
      have hE : rdE (l.drop i) = 5 := by unfold rdE; rw [if_pos hend]
      have HE := Lib.hid hE
      clear hE hend
      go_wp2_with (go_at_call 95; ((with_reducible refine (stop_any 5 _ p _ _ _ _ _ _ HR.out).mono ?_); rintro e w' ⟨rfl, hdn⟩; have HD := Lib.hid hdn; clear hdn))
      go_ret
      exact rnumpost_bad HE.out (by decide) (by rw [if_pos rfl, HN.out]; exact HD.out)
end Go.Proofs.YtkinhilkmjfjhaaGreat

/-! ### The reference's reader: size, end (X18, X19 turned). -/
namespace Go.Proofs.YtkinhilkmjfjhaaGreat
set_option maxRecDepth 100000
open Go.RowKit
attribute [local go_sem] bs_size bs_get bs_toList
theorem rdN_bad {m : List UInt8} (h : rdE m ≠ 0) : rdN m = 0 := by unfold rdN; rw [if_neg h]
theorem rint_ok {i : Nat} {p : Nat} {a : Option Addr} {cap : Nat} {l : List UInt8} (hl : l.length ≤ 1000000) (hi : i ≤ l.length) {q : Int} (hE : rdE (l.drop i) = 0) (w : World) (h : Rr w p a cap l i 0 q) :
    Calls Tryz.prog 54 #[.pointer (some ⟨p, 0, none⟩)] w fun e w' => e = .returned (.int .i64 (rdN (l.drop i))) ∧ RDone w p a cap l (cN l i : Nat) 0 q w' :=
  (refInt_any i p a cap l hl hi q w h).mono fun _e _w' ⟨h1, h2, _⟩ => ⟨h1, h2 hE⟩
theorem rint_bad {i : Nat} {p : Nat} {a : Option Addr} {cap : Nat} {l : List UInt8} (hl : l.length ≤ 1000000) (hi : i ≤ l.length) {q : Int} (hE : rdE (l.drop i) ≠ 0) (w : World) (h : Rr w p a cap l i 0 q) :
    Calls Tryz.prog 54 #[.pointer (some ⟨p, 0, none⟩)] w fun e w' => e = .returned (.int .i64 0) ∧ RDone w p a cap l i (rdE (l.drop i)) (cP l i) w' :=
  (refInt_any i p a cap l hl hi q w h).mono fun e w' ⟨h1, _, h3⟩ => ⟨by rw [h1, rdN_bad hE], h3 hE⟩
/-- What size does. -/
def SzPost (w : World) (p : Nat) (a : Option Addr) (cap : Nat) (l : List UInt8) (i : Nat) (q most ab : Int) (e : Ending) (w' : World) : Prop :=
  (cE l i most ab = 0 → e = .returned (.int .i64 (rdN (l.drop i))) ∧ RDone w p a cap l (cN l i) 0 q w') ∧
  (cE l i most ab ≠ 0 → e = .returned (.int .i64 0) ∧ RDone w p a cap l i (cE l i most ab) (cP l i) w')
set_option maxHeartbeats 4000000 in
theorem rsz_any (most ab : Int) (hab : (ab != 0) = true) (i : Nat) (p : Nat) (a : Option Addr) (cap : Nat) (l : List UInt8) (hl : l.length ≤ 1000000) (hi : i ≤ l.length) (q : Int) (w : World) (h : Rr w p a cap l i 0 q) :
    Calls Tryz.prog 96 #[.pointer (some ⟨p, 0, none⟩), .int .i64 most, .int .i64 ab] w (SzPost w p a cap l i q most ab) := by
  have HR := Lib.hid h
  obtain ⟨h0, h1, h2, h3, f1, f2, f3, hrd, _⟩ := h
  clear hrd
  by_cases hE : rdE (l.drop i) = 0
  · have HE := Lib.hid hE
    have HNO := Lib.hid (rint_ok hl hi hE w HR.out)
    have HCE : Hid (cE l i most ab = if rdN (l.drop i) < 0 then 4 else if most < rdN (l.drop i) then ab else 0) := by unfold cE; rw [if_neg (by rw [hE]; simp)]; exact rfl
    have HCP : Hid (cP l i = i) := by unfold cP; rw [hE, if_neg (by decide)]; exact rfl
    clear hE
    obtain ⟨N, hN⟩ : ∃ N, rdN (l.drop i) = N := ⟨_, rfl⟩
    have HNN := Lib.hid hN
    rw [hN] at HNO HCE
    clear hN
    obtain ⟨c, hc⟩ : ∃ c, cN l i = c := ⟨_, rfl⟩
    have HCC := Lib.hid hc
    rw [hc] at HNO
    clear hc
    go_enter Tryz.func96, Tryz.ntmps96
    go_wp2_with fail
    go_at_call 54
    refine (HNO.out).mono ?_
    rintro e w1 ⟨rfl, hd1⟩
    have HD1 := Lib.hid hd1
    obtain ⟨g0, g1, g2, g3, k1, k2, k3, _, _⟩ := hd1.1
    clear hd1 h0 h1 h2 h3 f1 f2 f3
    by_cases c1 : N < 0
    · have HC : Hid (cE l i most ab = 4) := by rw [HCE.out, if_pos c1]; exact rfl
      have d1 : decide (N < 0) = true := decide_eq_true c1
      have HS : Hid (RDone w p a cap l i 0 q (w1.setCell ⟨p, 1, none⟩ (.int .i64 (i : Int)))) := HD1.out.setAt _
      clear c1 HCE
      go_wp2_with (go_at_call 95; ((with_reducible refine (stop_any 4 _ p _ _ _ _ _ _ HS.out.rr).mono ?_); rintro e w2 ⟨rfl, hd2⟩; have HD2 := Lib.hid hd2; clear hd2))
      go_ret
      exact ⟨fun h => absurd (HC.out.symm.trans h) (by decide), fun _ => ⟨rfl, by rw [HC.out, HCP.out]; exact RDone.next HS.out.2 HD2.out⟩⟩
    · have d1 : decide (N < 0) = false := decide_eq_false c1
      by_cases c2 : most < N
      · have HC : Hid (cE l i most ab = ab) := by rw [HCE.out, if_neg c1, if_pos c2]; exact rfl
        have d2 : decide (most < N) = true := decide_eq_true c2
        have HS : Hid (RDone w p a cap l i 0 q (w1.setCell ⟨p, 1, none⟩ (.int .i64 (i : Int)))) := HD1.out.setAt _
        have HAB : Hid (ab ≠ 0) := by intro e; rw [e] at hab; cases hab
        clear c1 c2 HCE
        go_wp2_with (go_at_call 95; ((with_reducible refine (stop_any ab _ p _ _ _ _ _ _ HS.out.rr).mono ?_); rintro e w2 ⟨rfl, hd2⟩; have HD2 := Lib.hid hd2; clear hd2))
        go_ret
        exact ⟨fun h => absurd (HC.out.symm.trans h) HAB.out, fun _ => ⟨rfl, by rw [HC.out, HCP.out]; exact RDone.next HS.out.2 HD2.out⟩⟩
      · have HC : Hid (cE l i most ab = 0) := by rw [HCE.out, if_neg c1, if_neg c2]; exact rfl
        have d2 : decide (most < N) = false := decide_eq_false c2
        clear c1 c2 HCE
        go_wp2_with fail
        go_ret
        exact ⟨fun _ => ⟨by rw [HNN.out]; rfl, by rw [HCC.out]; exact HD1.out⟩, fun h => absurd HC.out h⟩
  · have HE := Lib.hid hE
    have HNO := Lib.hid (rint_bad hl hi hE w HR.out)
    have HC : Hid (cE l i most ab = rdE (l.drop i)) := by unfold cE; rw [if_pos hE]; exact rfl
    obtain ⟨E, hEE⟩ : ∃ E, rdE (l.drop i) = E := ⟨_, rfl⟩
    rw [hEE] at HNO HC
    have e0 : (E != 0) = true := by rw [← hEE]; simpa using hE
    have HE0 : Hid (E ≠ 0) := by rw [← hEE]; exact hE
    clear hE hEE HE
    go_enter Tryz.func96, Tryz.ntmps96
    go_wp2_with fail
    go_at_call 54
    refine (HNO.out).mono ?_
    rintro e w1 ⟨rfl, hd1⟩
    have HD1 := Lib.hid hd1
    obtain ⟨g0, g1, g2, g3, k1, k2, k3, _, _⟩ := hd1.1
    clear hd1 h0 h1 h2 h3 f1 f2 f3
    go_wp2_with fail
    go_ret
    exact ⟨fun h => absurd (HC.out.symm.trans h) HE0.out, fun _ => ⟨rfl, by rw [HC.out]; exact HD1.out⟩⟩
set_option maxHeartbeats 1000000 in
theorem rend_any (p : Nat) (a : Option Addr) (cap : Nat) (l : List UInt8) (_hl : l.length ≤ 1000000) (i : Nat) (f q : Int) (w : World) (h : Rr w p a cap l i f q) (hq : f = 0 → q = 0) :
    Calls Tryz.prog 56 #[.pointer (some ⟨p, 0, none⟩)] w fun e w' => e = .returned (if f = 0 ∧ i < l.length then .tuple #[.int .i64 6, .int .i64 i] else .tuple #[.int .i64 f, .int .i64 q]) ∧ Below w.heap.size w w' := by
  have HR := Lib.hid h
  obtain ⟨h0, h1, h2, h3, f1, f2, f3, hrd, _⟩ := h
  clear hrd
  by_cases hf : f = 0
  · subst hf
    obtain rfl := hq rfl
    clear hq
    by_cases hi : i < l.length
    · rw [if_pos ⟨rfl, hi⟩]
      go_enter Tryz.func56, Tryz.ntmps56
      go_wp2_with fail
      go_quiet (fail)
      go_wp2_with fail
      go_quiet (fail)
      go_wp2
      go_ret2
      exact ⟨rfl, by first | exact below_drewN (Below.refl _ _) _ | exact below_drewN (below_drewN (Below.refl _ _) _) _⟩
    · rw [if_neg (fun h => hi h.2)]
      go_enter Tryz.func56, Tryz.ntmps56
      go_wp2_with fail
      go_quiet (fail)
      go_wp2
      go_ret2
      exact ⟨rfl, by first | exact below_drewN (Below.refl _ _) _ | exact below_drewN (below_drewN (Below.refl _ _) _) _⟩
  · clear hq
    rw [if_neg (fun h => hf h.1)]
    have hd : (f == 0) = false := beq_eq_false_iff_ne.2 hf
    have hd2 : (f != 0) = true := by simpa using hf
    go_enter Tryz.func56, Tryz.ntmps56
    go_wp2_with fail
    go_quiet (fail)
    go_wp2
    go_ret2
    exact ⟨rfl, by first | exact below_drewN (Below.refl _ _) _ | exact below_drewN (below_drewN (Below.refl _ _) _) _⟩
end Go.Proofs.YtkinhilkmjfjhaaGreat
