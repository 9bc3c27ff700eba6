/-
  The walk of num's Parse behind its five words, by the signs. Written by a program (e22.py).
  The walk of num's Parse behind its five words, by the signs. Written by a program (e22.py).
  The walk of num's Parse behind its five words, by the signs. Written by a program (e22.py).
  The walk of num's Parse behind its five words, by the signs. Written by a program (e22.py).
  The walk of num's Parse behind its five words, by the signs. Written by a program (e22.py).
  The walk of num's Parse behind its five words, by the signs. Written by a program (e22.py).
  The walk of num's Parse behind its five words, by the signs. Written by a program (e22.py).
  num.Parse of any text: the five words, and what is no number.
  num.Parse of any text: put together.
-/
import Derived.Test.YtalpbphfmelhhaaGreatDoorNCD
/-! ### The walk of num's Parse behind its five words, by the signs. Written by a program (e22.py). -/
namespace Go.Proofs.YtalpbphfmelhhaaGreatDoor
set_option maxRecDepth 100000
open Go.RowKit Go.Shelf Go.Sort
attribute [local go_sem] bs_size bs_get bs_toList neg_fb

theorem neg_run {P : Program} (x : UInt64) (w : World) : (Op.unary .neg (.float .f64 (fb x))).run P w = .ok (.float .f64 (fb (x ^^^ topW))) w := by
  show Result.ok (Value.float .f64 (Op.negFloat .f64 (fb x))) w = _
  rw [neg_fb]
theorem dig_all {l : List UInt8} (h : digB l = true) : l.all isDig = true := by
  unfold digB at h; exact (Bool.and_eq_true_iff.1 h).2
theorem small_some (l : List UInt8) (most : Nat) (hm : most ≤ 17) (hl : l.length ≤ 4611686018427387904) (hd : l.all isDig = true) :
    ∃ (v : Int) (o : Bool), ∀ W, Calls Tryz.prog 145 #[.string (bs l), .int .i64 (most : Int)] W fun e w' => e = .returned (.tuple #[.int .i64 v, .bool o]) ∧ w' = W := by
  by_cases h : l.length ≤ most
  · exact ⟨decTo l l.length, true, fun W => by have := small_any l most hm hl hd W; rw [if_pos h] at this; exact this⟩
  · exact ⟨0, false, fun W => by have := small_any l most hm hl hd W; rw [if_neg h] at this; exact this⟩
end Go.Proofs.YtalpbphfmelhhaaGreatDoor

/-! ### The walk of num's Parse behind its five words, by the signs. Written by a program (e22.py). -/
namespace Go.Proofs.YtalpbphfmelhhaaGreatDoor
set_option maxRecDepth 100000
open Go.RowKit Go.Shelf Go.Sort
attribute [local go_sem] bs_size bs_get bs_toList neg_run

set_option maxRecDepth 100000 in
set_option maxHeartbeats 400000 in
theorem parse_p_empty (l a : List UInt8) (w : World) (L1 : (l == [110, 97, 110]) = false) (L2 : (l == [105, 110, 102]) = false) (L3 : (l == [45, 105, 110, 102]) = false) (L4 : (l == [48]) = false) (L5 : (l == [45, 48]) = false)
    (hl0 : 0 < l.length) (hlE : l.isEmpty = false) (hsg : (((bAt l 0).toNat : Int) == 45) = false)
    (HC : Hid (∀ W, Calls Tryz.prog 143 #[.string (bs l)] W fun e w' => e = .returned (.tuple #[.string (bs a), .string (bs []), .bool true]) ∧ ∃ nd, w' = W.drewN nd))
    (hal : Hid (a.length ≤ 4611686018427387904)) :
    Calls Tryz.prog 110 #[.string (bs l)] w fun e w' => e = .returned (.tuple #[.float .f64 (fb (parseNum false a false []).1), .int .i64 (parseNum false a false []).2]) ∧ ∃ nd, w' = w.drewN nd := by
  obtain ⟨R, HR0⟩ : ∃ R, Hid (R = parseNum false a false []) := ⟨_, rfl⟩
  rw [← HR0.out]
  cases da : digB a with
  | false =>
    have HR : Hid (R = (0, 4)) := by rw [HR0.out]; unfold parseNum; rw [da]; exact rfl
    have HDa : Hid (∀ W, Calls Tryz.prog 144 #[.string (bs a)] W fun e w' => e = .returned (.bool false) ∧ w' = W) := fun W => by rw [← da]; exact digits_any a hal.out W
    clear da
    go_enter Tryz.func110, Tryz.ntmps110
    go_wp2_with (first | (go_at_call 143; ((with_reducible refine (HC.out _).mono ?_); rintro e w' ⟨rfl, nd, rfl⟩)) | (go_at_call 144; ((with_reducible refine (HDa.out _).mono ?_); rintro e w' ⟨rfl, rfl⟩)))
    go_ret2
    exact ⟨by rw [HR.out]; rfl, nd, rfl⟩
  | true =>
  have HDa : Hid (∀ W, Calls Tryz.prog 144 #[.string (bs a)] W fun e w' => e = .returned (.bool true) ∧ w' = W) := fun W => by rw [← da]; exact digits_any a hal.out W
  cases ea : (a == [48]) with
  | true =>
    have HR : Hid (R = (0, 4)) := by rw [HR0.out]; unfold parseNum; rw [da, ea]; exact rfl
    clear da
    go_enter Tryz.func110, Tryz.ntmps110
    go_wp2_with (first | (go_at_call 143; ((with_reducible refine (HC.out _).mono ?_); rintro e w' ⟨rfl, nd, rfl⟩)) | (go_at_call 144; ((with_reducible refine (HDa.out _).mono ?_); rintro e w' ⟨rfl, rfl⟩)))
    go_ret2
    exact ⟨by rw [HR.out]; rfl, nd, rfl⟩
  | false =>
  have HR : Hid (R = (0, 4)) := by rw [HR0.out]; unfold parseNum; rw [da, ea]; exact rfl
  have HDb : Hid (∀ W, Calls Tryz.prog 144 #[.string (bs [])] W fun e w' => e = .returned (.bool false) ∧ w' = W) := fun W => digits_any [] (by decide) W
  clear da
  go_enter Tryz.func110, Tryz.ntmps110
  go_wp2_with (first | (go_at_call 143; ((with_reducible refine (HC.out _).mono ?_); rintro e w' ⟨rfl, nd, rfl⟩)) | (go_at_call 144; ((with_reducible refine (HDa.out _).mono ?_); rintro e w' ⟨rfl, rfl⟩)) | (go_at_call 144; ((with_reducible refine (HDb.out _).mono ?_); rintro e w' ⟨rfl, rfl⟩)))
  go_ret2
  exact ⟨by rw [HR.out]; rfl, nd, rfl⟩
end Go.Proofs.YtalpbphfmelhhaaGreatDoor

/-! ### The walk of num's Parse behind its five words, by the signs. Written by a program (e22.py). -/
namespace Go.Proofs.YtalpbphfmelhhaaGreatDoor
set_option maxRecDepth 100000
open Go.RowKit Go.Shelf Go.Sort
attribute [local go_sem] bs_size bs_get bs_toList neg_run

set_option maxRecDepth 100000 in
set_option maxHeartbeats 400000 in
theorem parse_p_down (l a b0 b : List UInt8) (w : World) (L1 : (l == [110, 97, 110]) = false) (L2 : (l == [105, 110, 102]) = false) (L3 : (l == [45, 105, 110, 102]) = false) (L4 : (l == [48]) = false) (L5 : (l == [45, 48]) = false)
    (hl0 : 0 < l.length) (hlE : l.isEmpty = false) (hsg : (((bAt l 0).toNat : Int) == 45) = false)
    (HC : Hid (∀ W, Calls Tryz.prog 143 #[.string (bs l)] W fun e w' => e = .returned (.tuple #[.string (bs a), .string (bs b0), .bool true]) ∧ ∃ nd, w' = W.drewN nd))
    (hbE : b0.isEmpty = false) (hb0 : 0 < b0.length) (hbs : (((bAt b0 0).toNat : Int) == 45) = true)
    (hbx : (bs b0).extract 1 b0.length = bs b)
    (hal : Hid (a.length ≤ 4611686018427387904)) (hbl : Hid (b.length ≤ 4611686018427387904)) :
    Calls Tryz.prog 110 #[.string (bs l)] w fun e w' => e = .returned (.tuple #[.float .f64 (fb (parseNum false a true b).1), .int .i64 (parseNum false a true b).2]) ∧ ∃ nd, w' = w.drewN nd := by
  obtain ⟨R, HR0⟩ : ∃ R, Hid (R = parseNum false a true b) := ⟨_, rfl⟩
  rw [← HR0.out]
  cases da : digB a with
  | false =>
    have HR : Hid (R = (0, 4)) := by rw [HR0.out]; unfold parseNum; rw [da]; exact rfl
    have HDa : Hid (∀ W, Calls Tryz.prog 144 #[.string (bs a)] W fun e w' => e = .returned (.bool false) ∧ w' = W) := fun W => by rw [← da]; exact digits_any a hal.out W
    clear da
    go_enter Tryz.func110, Tryz.ntmps110
    go_wp2_with (first | (go_at_call 143; ((with_reducible refine (HC.out _).mono ?_); rintro e w' ⟨rfl, nd, rfl⟩)) | (go_at_call 144; ((with_reducible refine (HDa.out _).mono ?_); rintro e w' ⟨rfl, rfl⟩)))
    go_ret2
    exact ⟨by rw [HR.out]; rfl, nd, rfl⟩
  | true =>
  have HDa : Hid (∀ W, Calls Tryz.prog 144 #[.string (bs a)] W fun e w' => e = .returned (.bool true) ∧ w' = W) := fun W => by rw [← da]; exact digits_any a hal.out W
  cases ea : (a == [48]) with
  | true =>
    have HR : Hid (R = (0, 4)) := by rw [HR0.out]; unfold parseNum; rw [da, ea]; exact rfl
    clear da
    go_enter Tryz.func110, Tryz.ntmps110
    go_wp2_with (first | (go_at_call 143; ((with_reducible refine (HC.out _).mono ?_); rintro e w' ⟨rfl, nd, rfl⟩)) | (go_at_call 144; ((with_reducible refine (HDa.out _).mono ?_); rintro e w' ⟨rfl, rfl⟩)))
    go_ret2
    exact ⟨by rw [HR.out]; rfl, nd, rfl⟩
  | false =>
  cases db : digB b with
  | false =>
    have HR : Hid (R = (0, 4)) := by rw [HR0.out]; unfold parseNum; rw [da, ea, db]; exact rfl
    have HDb : Hid (∀ W, Calls Tryz.prog 144 #[.string (bs b)] W fun e w' => e = .returned (.bool false) ∧ w' = W) := fun W => by rw [← db]; exact digits_any _ hbl.out W
    clear da db
    go_enter Tryz.func110, Tryz.ntmps110
    go_wp2_with (first | (go_at_call 143; ((with_reducible refine (HC.out _).mono ?_); rintro e w' ⟨rfl, nd, rfl⟩)) | (go_at_call 144; ((with_reducible refine (HDa.out _).mono ?_); rintro e w' ⟨rfl, rfl⟩)) | (go_at_call 144; ((with_reducible refine (HDb.out _).mono ?_); rintro e w' ⟨rfl, rfl⟩)))
    go_ret2
    exact ⟨by rw [HR.out]; rfl, nd, rfl⟩
  | true =>
  have HDb : Hid (∀ W, Calls Tryz.prog 144 #[.string (bs b)] W fun e w' => e = .returned (.bool true) ∧ w' = W) := fun W => by rw [← db]; exact digits_any _ hbl.out W
  cases eb : (b == [48]) with
  | true =>
    have HR : Hid (R = (0, 4)) := by rw [HR0.out]; unfold parseNum; rw [da, ea, db, eb]; exact rfl
    clear da db
    go_enter Tryz.func110, Tryz.ntmps110
    go_wp2_with (first | (go_at_call 143; ((with_reducible refine (HC.out _).mono ?_); rintro e w' ⟨rfl, nd, rfl⟩)) | (go_at_call 144; ((with_reducible refine (HDa.out _).mono ?_); rintro e w' ⟨rfl, rfl⟩)) | (go_at_call 144; ((with_reducible refine (HDb.out _).mono ?_); rintro e w' ⟨rfl, rfl⟩)))
    go_ret2
    exact ⟨by rw [HR.out]; rfl, nd, rfl⟩
  | false =>
  have HF : Hid ((!digB a || (a == [48]) || !digB b || (true && (b == [48]))) = false) := by rw [da, ea, db, eb]; exact rfl
  have hda := dig_all da
  have hdb := dig_all db
  clear da db
  by_cases ha : 16 < a.length
  · have HR : Hid (R = (0, 1)) := by rw [HR0.out]; unfold parseNum; rw [HF.out, if_neg (by decide), if_pos (Or.inl ha)]; exact rfl
    have HSa : Hid (∀ W, Calls Tryz.prog 145 #[.string (bs a), .int .i64 16] W fun e w' => e = .returned (.tuple #[.int .i64 0, .bool false]) ∧ w' = W) := fun W => by
      have := small_any a 16 (by omega) hal.out hda W
      rw [if_neg (by omega)] at this; exact this
    obtain ⟨v, o, hv⟩ := small_some b 5 (by omega) hbl.out hdb
    have HSb : Hid (∀ W, Calls Tryz.prog 145 #[.string (bs b), .int .i64 5] W fun e w' => e = .returned (.tuple #[.int .i64 v, .bool o]) ∧ w' = W) := hv
    clear ha hv hda hdb
    go_enter Tryz.func110, Tryz.ntmps110
    go_wp2_with (first | (go_at_call 143; ((with_reducible refine (HC.out _).mono ?_); rintro e w' ⟨rfl, nd, rfl⟩)) | (go_at_call 144; ((with_reducible refine (HDa.out _).mono ?_); rintro e w' ⟨rfl, rfl⟩)) | (go_at_call 144; ((with_reducible refine (HDb.out _).mono ?_); rintro e w' ⟨rfl, rfl⟩)) | (go_at_call 145; ((with_reducible refine (HSa.out _).mono ?_); rintro e w' ⟨rfl, rfl⟩)) | (go_at_call 145; ((with_reducible refine (HSb.out _).mono ?_); rintro e w' ⟨rfl, rfl⟩)))
    go_ret2
    exact ⟨by rw [HR.out]; rfl, nd, rfl⟩
  have HSa : Hid (∀ W, Calls Tryz.prog 145 #[.string (bs a), .int .i64 16] W fun e w' => e = .returned (.tuple #[.int .i64 (decTo a a.length : Int), .bool true]) ∧ w' = W) := fun W => by
    have := small_any a 16 (by omega) hal.out hda W
    rw [if_pos (by omega)] at this; exact this
  have hMb := decTo_bd a a.length ((all_bAt a isDig).1 hda)
  have hMb2 : 10 ^ a.length ≤ 10 ^ 16 := Nat.pow_le_pow_right (by decide) (by omega)
  have hMb3 : decTo a a.length < 10000000000000000 := Nat.lt_of_lt_of_le hMb hMb2
  clear hMb hMb2
  by_cases hb : 5 < b.length
  · have HR : Hid (R = (0, 1)) := by rw [HR0.out]; unfold parseNum; rw [HF.out, if_neg (by decide), if_pos (Or.inr (Or.inl hb))]; exact rfl
    have HSb : Hid (∀ W, Calls Tryz.prog 145 #[.string (bs b), .int .i64 5] W fun e w' => e = .returned (.tuple #[.int .i64 0, .bool false]) ∧ w' = W) := fun W => by
      have := small_any b 5 (by omega) hbl.out hdb W
      rw [if_neg (by omega)] at this; exact this
    clear ha hb hda hdb hMb3 HF HR0
    generalize ((decTo a a.length : Nat) : Int) = m at *
    go_enter Tryz.func110, Tryz.ntmps110
    go_wp2_with (first | (go_at_call 143; ((with_reducible refine (HC.out _).mono ?_); rintro e w' ⟨rfl, nd, rfl⟩)) | (go_at_call 144; ((with_reducible refine (HDa.out _).mono ?_); rintro e w' ⟨rfl, rfl⟩)) | (go_at_call 144; ((with_reducible refine (HDb.out _).mono ?_); rintro e w' ⟨rfl, rfl⟩)) | (go_at_call 145; ((with_reducible refine (HSa.out _).mono ?_); rintro e w' ⟨rfl, rfl⟩)) | (go_at_call 145; ((with_reducible refine (HSb.out _).mono ?_); rintro e w' ⟨rfl, rfl⟩)))
    go_ret2
    exact ⟨by rw [HR.out]; rfl, nd, rfl⟩
  have HSb : Hid (∀ W, Calls Tryz.prog 145 #[.string (bs b), .int .i64 5] W fun e w' => e = .returned (.tuple #[.int .i64 (decTo b b.length : Int), .bool true]) ∧ w' = W) := fun W => by
    have := small_any b 5 (by omega) hbl.out hdb W
    rw [if_pos (by omega)] at this; exact this
  have hEb := decTo_bd b b.length ((all_bAt b isDig).1 hdb)
  have hEb2 : 10 ^ b.length ≤ 10 ^ 5 := Nat.pow_le_pow_right (by decide) (by omega)
  have hEb3 : decTo b b.length < 100000 := Nat.lt_of_lt_of_le hEb hEb2
  clear hEb hEb2
  by_cases hM : 9007199254740992 ≤ decTo a a.length
  · have HR : Hid (R = (0, 1)) := by rw [HR0.out]; unfold parseNum; rw [HF.out, if_neg (by decide), if_pos (Or.inr (Or.inr (Or.inl hM)))]; exact rfl
    have hd : decide ((9007199254740992 : Int) ≤ ((decTo a a.length : Nat) : Int)) = true := decide_eq_true (by omega)
    clear ha hb hda hdb hMb3 hEb3 hM HF HR0
    generalize ((decTo a a.length : Nat) : Int) = m at *
    generalize ((decTo b b.length : Nat) : Int) = p at *
    go_enter Tryz.func110, Tryz.ntmps110
    go_wp2_with (first | (go_at_call 143; ((with_reducible refine (HC.out _).mono ?_); rintro e w' ⟨rfl, nd, rfl⟩)) | (go_at_call 144; ((with_reducible refine (HDa.out _).mono ?_); rintro e w' ⟨rfl, rfl⟩)) | (go_at_call 144; ((with_reducible refine (HDb.out _).mono ?_); rintro e w' ⟨rfl, rfl⟩)) | (go_at_call 145; ((with_reducible refine (HSa.out _).mono ?_); rintro e w' ⟨rfl, rfl⟩)) | (go_at_call 145; ((with_reducible refine (HSb.out _).mono ?_); rintro e w' ⟨rfl, rfl⟩)))
    go_ret2
    exact ⟨by rw [HR.out]; rfl, nd, rfl⟩
  by_cases hod : decTo a a.length % 2 = 0
  · have HR : Hid (R = (0, 1)) := by rw [HR0.out]; unfold parseNum; rw [HF.out, if_neg (by decide), if_pos (Or.inr (Or.inr (Or.inr hod)))]; exact rfl
    have hd : decide ((9007199254740992 : Int) ≤ ((decTo a a.length : Nat) : Int)) = false := decide_eq_false (by omega)
    have hm0 : (0 : Int) ≤ ((decTo a a.length : Nat) : Int) := by omega
    have he : (((decTo a a.length : Nat) : Int) % 2 == 0) = true := by rw [beq_iff_eq]; omega
    clear ha hb hda hdb hMb3 hEb3 hM hod HF HR0
    generalize ((decTo a a.length : Nat) : Int) = m at *
    generalize ((decTo b b.length : Nat) : Int) = p at *
    go_enter Tryz.func110, Tryz.ntmps110
    go_wp2_with (first | (go_at_call 143; ((with_reducible refine (HC.out _).mono ?_); rintro e w' ⟨rfl, nd, rfl⟩)) | (go_at_call 144; ((with_reducible refine (HDa.out _).mono ?_); rintro e w' ⟨rfl, rfl⟩)) | (go_at_call 144; ((with_reducible refine (HDb.out _).mono ?_); rintro e w' ⟨rfl, rfl⟩)) | (go_at_call 145; ((with_reducible refine (HSa.out _).mono ?_); rintro e w' ⟨rfl, rfl⟩)) | (go_at_call 145; ((with_reducible refine (HSb.out _).mono ?_); rintro e w' ⟨rfl, rfl⟩)))
    go_ret2
    exact ⟨by rw [HR.out]; rfl, nd, rfl⟩
  have HN : Hid (¬(16 < a.length ∨ 5 < b.length ∨ 9007199254740992 ≤ decTo a a.length ∨ decTo a a.length % 2 = 0)) := by
    rintro (h | h | h | h)
    · exact ha h
    · exact hb h
    · exact hM h
    · exact hod h
  have hP : Hid (R = if (-(decTo b b.length : Int)) < -1074 ∨ 1024 < (Lib.bitLen (decTo a a.length) : Int) + (-(decTo b b.length : Int)) then (0, 1) else (ldW (decTo a a.length) (-(decTo b b.length : Int)), 0)) := by
    rw [HR0.out]; unfold parseNum; rw [HF.out, if_neg (by decide), if_neg HN.out]; exact rfl
  clear ha hb hda hdb HF HN HR0
  have HLn : Hid (∀ W, Calls Tryz.prog 140 #[.int .u64 (decTo a a.length : Int)] W fun e w' => e = .returned (.int .i64 (Lib.bitLen (decTo a a.length) : Int)) ∧ w' = W) := fun W => Tryz.bits_Len64 _ W (by omega) (by omega)
  have hd : decide ((9007199254740992 : Int) ≤ ((decTo a a.length : Nat) : Int)) = false := decide_eq_false (by omega)
  have hm0 : (0 : Int) ≤ ((decTo a a.length : Nat) : Int) := by omega
  have hm1 : ((decTo a a.length : Nat) : Int) ≤ 10000000000000000 := by omega
  have he : (((decTo a a.length : Nat) : Int) % 2 == 0) = false := beq_eq_false_iff_ne.2 (by omega)
  have hp0 : (0 : Int) ≤ ((decTo b b.length : Nat) : Int) := by omega
  have hp1 : ((decTo b b.length : Nat) : Int) ≤ 100000 := by omega
  have hbl2 := bitLen_log2 (decTo a a.length) (by omega) (by omega)
  have hlg := (Nat.log2_lt (show decTo a a.length ≠ 0 by omega) (k := 53)).2 (by omega)
  have hcv := conv_nat (decTo a a.length) (by omega) (by omega)
  have hq0 : (0 : Int) ≤ (Lib.bitLen (decTo a a.length) : Int) := by omega
  have hq1 : (Lib.bitLen (decTo a a.length) : Int) ≤ 64 := by omega
  by_cases hlo : (-(decTo b b.length : Int)) < -1074
  · have HR : Hid (R = (0, 1)) := by rw [hP.out, if_pos (Or.inl hlo)]; exact rfl
    have h1 : decide ((-(decTo b b.length : Int)) < -1074) = true := decide_eq_true hlo
    have h1b : decide (1074 < (decTo b b.length : Int)) = true := decide_eq_true (by omega)
    clear hbl2 hcv hlg hlo hq0 hq1 HLn hP hM hod hMb3 hEb3
    generalize ((decTo a a.length : Nat) : Int) = m at *
    generalize ((decTo b b.length : Nat) : Int) = p at *
    go_enter Tryz.func110, Tryz.ntmps110
    go_wp2_with (first | (go_at_call 143; ((with_reducible refine (HC.out _).mono ?_); rintro e w' ⟨rfl, nd, rfl⟩)) | (go_at_call 144; ((with_reducible refine (HDa.out _).mono ?_); rintro e w' ⟨rfl, rfl⟩)) | (go_at_call 144; ((with_reducible refine (HDb.out _).mono ?_); rintro e w' ⟨rfl, rfl⟩)) | (go_at_call 145; ((with_reducible refine (HSa.out _).mono ?_); rintro e w' ⟨rfl, rfl⟩)) | (go_at_call 145; ((with_reducible refine (HSb.out _).mono ?_); rintro e w' ⟨rfl, rfl⟩)))
    go_ret2
    exact ⟨by rw [HR.out]; rfl, nd, rfl⟩
  have h1 : decide ((-(decTo b b.length : Int)) < -1074) = false := decide_eq_false hlo
  have h1b : decide (1074 < (decTo b b.length : Int)) = false := decide_eq_false (by omega)
  by_cases hhi : 1024 < (Lib.bitLen (decTo a a.length) : Int) + (-(decTo b b.length : Int))
  · have HR : Hid (R = (0, 1)) := by rw [hP.out, if_pos (Or.inr hhi)]; exact rfl
    have h2 : decide (1024 < (Lib.bitLen (decTo a a.length) : Int) + (-(decTo b b.length : Int))) = true := decide_eq_true hhi
    clear hbl2 hcv hlg hlo hhi hP hM hod hMb3 hEb3
    generalize (Lib.bitLen (decTo a a.length) : Int) = q at *
    generalize ((decTo a a.length : Nat) : Int) = m at *
    generalize ((decTo b b.length : Nat) : Int) = p at *
    go_enter Tryz.func110, Tryz.ntmps110
    go_wp2_with (first | (go_at_call 143; ((with_reducible refine (HC.out _).mono ?_); rintro e w' ⟨rfl, nd, rfl⟩)) | (go_at_call 144; ((with_reducible refine (HDa.out _).mono ?_); rintro e w' ⟨rfl, rfl⟩)) | (go_at_call 144; ((with_reducible refine (HDb.out _).mono ?_); rintro e w' ⟨rfl, rfl⟩)) | (go_at_call 145; ((with_reducible refine (HSa.out _).mono ?_); rintro e w' ⟨rfl, rfl⟩)) | (go_at_call 145; ((with_reducible refine (HSb.out _).mono ?_); rintro e w' ⟨rfl, rfl⟩)) | (go_at_call 140; ((with_reducible refine (HLn.out _).mono ?_); rintro e w' ⟨rfl, rfl⟩)))
    go_ret2
    exact ⟨by rw [HR.out]; rfl, nd, rfl⟩
  have h2 : decide (1024 < (Lib.bitLen (decTo a a.length) : Int) + (-(decTo b b.length : Int))) = false := decide_eq_false hhi
  have HI : Hid (InR (decTo a a.length) (-(decTo b b.length : Int))) := ⟨by omega, by omega, by omega, by omega⟩
  have HR : Hid (R = (ldW (decTo a a.length) (-(decTo b b.length : Int)), 0)) := by rw [hP.out, if_neg (by rintro (h | h); exact hlo h; exact hhi h)]; exact rfl
  have HLd : Hid (∀ W, Calls Tryz.prog 117 #[.float .f64 (fb (fOf (decTo a a.length))), .int .i64 (-(decTo b b.length : Int))] W fun v w' => v = .returned (.float .f64 (fb (ldW (decTo a a.length) (-(decTo b b.length : Int))))) ∧ w' = W) := fun W => Ldexp_fits _ _ HI.out W
  generalize ldW (decTo a a.length) (-(decTo b b.length : Int)) = X at *
  generalize fOf (decTo a a.length) = Y at *
  clear hbl2 hlg hP hlo hhi HI hM hod hMb3 hEb3
  generalize (Lib.bitLen (decTo a a.length) : Int) = q at *
  generalize ((decTo a a.length : Nat) : Int) = m at *
  generalize ((decTo b b.length : Nat) : Int) = p at *
  go_enter Tryz.func110, Tryz.ntmps110
  go_wp2_with (first | (go_at_call 143; ((with_reducible refine (HC.out _).mono ?_); rintro e w' ⟨rfl, nd, rfl⟩)) | (go_at_call 144; ((with_reducible refine (HDa.out _).mono ?_); rintro e w' ⟨rfl, rfl⟩)) | (go_at_call 144; ((with_reducible refine (HDb.out _).mono ?_); rintro e w' ⟨rfl, rfl⟩)) | (go_at_call 145; ((with_reducible refine (HSa.out _).mono ?_); rintro e w' ⟨rfl, rfl⟩)) | (go_at_call 145; ((with_reducible refine (HSb.out _).mono ?_); rintro e w' ⟨rfl, rfl⟩)) | (go_at_call 140; ((with_reducible refine (HLn.out _).mono ?_); rintro e w' ⟨rfl, rfl⟩)) | (go_at_call 117; ((with_reducible refine (HLd.out _).mono ?_); rintro e w' ⟨rfl, rfl⟩)))
  go_ret2
  exact ⟨by rw [HR.out]; rfl, nd, rfl⟩
end Go.Proofs.YtalpbphfmelhhaaGreatDoor

/-! ### The walk of num's Parse behind its five words, by the signs. Written by a program (e22.py). -/
namespace Go.Proofs.YtalpbphfmelhhaaGreatDoor
set_option maxRecDepth 100000
open Go.RowKit Go.Shelf Go.Sort
attribute [local go_sem] bs_size bs_get bs_toList neg_run

set_option maxRecDepth 100000 in
set_option maxHeartbeats 400000 in
theorem parse_p_plain (l a b0 : List UInt8) (w : World) (L1 : (l == [110, 97, 110]) = false) (L2 : (l == [105, 110, 102]) = false) (L3 : (l == [45, 105, 110, 102]) = false) (L4 : (l == [48]) = false) (L5 : (l == [45, 48]) = false)
    (hl0 : 0 < l.length) (hlE : l.isEmpty = false) (hsg : (((bAt l 0).toNat : Int) == 45) = false)
    (HC : Hid (∀ W, Calls Tryz.prog 143 #[.string (bs l)] W fun e w' => e = .returned (.tuple #[.string (bs a), .string (bs b0), .bool true]) ∧ ∃ nd, w' = W.drewN nd))
    (hbE : b0.isEmpty = false) (hb0 : 0 < b0.length) (hbs : (((bAt b0 0).toNat : Int) == 45) = false)
    (hal : Hid (a.length ≤ 4611686018427387904)) (hbl : Hid (b0.length ≤ 4611686018427387904)) :
    Calls Tryz.prog 110 #[.string (bs l)] w fun e w' => e = .returned (.tuple #[.float .f64 (fb (parseNum false a false b0).1), .int .i64 (parseNum false a false b0).2]) ∧ ∃ nd, w' = w.drewN nd := by
  obtain ⟨R, HR0⟩ : ∃ R, Hid (R = parseNum false a false b0) := ⟨_, rfl⟩
  rw [← HR0.out]
  cases da : digB a with
  | false =>
    have HR : Hid (R = (0, 4)) := by rw [HR0.out]; unfold parseNum; rw [da]; exact rfl
    have HDa : Hid (∀ W, Calls Tryz.prog 144 #[.string (bs a)] W fun e w' => e = .returned (.bool false) ∧ w' = W) := fun W => by rw [← da]; exact digits_any a hal.out W
    clear da
    go_enter Tryz.func110, Tryz.ntmps110
    go_wp2_with (first | (go_at_call 143; ((with_reducible refine (HC.out _).mono ?_); rintro e w' ⟨rfl, nd, rfl⟩)) | (go_at_call 144; ((with_reducible refine (HDa.out _).mono ?_); rintro e w' ⟨rfl, rfl⟩)))
    go_ret2
    exact ⟨by rw [HR.out]; rfl, nd, rfl⟩
  | true =>
  have HDa : Hid (∀ W, Calls Tryz.prog 144 #[.string (bs a)] W fun e w' => e = .returned (.bool true) ∧ w' = W) := fun W => by rw [← da]; exact digits_any a hal.out W
  cases ea : (a == [48]) with
  | true =>
    have HR : Hid (R = (0, 4)) := by rw [HR0.out]; unfold parseNum; rw [da, ea]; exact rfl
    clear da
    go_enter Tryz.func110, Tryz.ntmps110
    go_wp2_with (first | (go_at_call 143; ((with_reducible refine (HC.out _).mono ?_); rintro e w' ⟨rfl, nd, rfl⟩)) | (go_at_call 144; ((with_reducible refine (HDa.out _).mono ?_); rintro e w' ⟨rfl, rfl⟩)))
    go_ret2
    exact ⟨by rw [HR.out]; rfl, nd, rfl⟩
  | false =>
  cases db : digB b0 with
  | false =>
    have HR : Hid (R = (0, 4)) := by rw [HR0.out]; unfold parseNum; rw [da, ea, db]; exact rfl
    have HDb : Hid (∀ W, Calls Tryz.prog 144 #[.string (bs b0)] W fun e w' => e = .returned (.bool false) ∧ w' = W) := fun W => by rw [← db]; exact digits_any _ hbl.out W
    clear da db
    go_enter Tryz.func110, Tryz.ntmps110
    go_wp2_with (first | (go_at_call 143; ((with_reducible refine (HC.out _).mono ?_); rintro e w' ⟨rfl, nd, rfl⟩)) | (go_at_call 144; ((with_reducible refine (HDa.out _).mono ?_); rintro e w' ⟨rfl, rfl⟩)) | (go_at_call 144; ((with_reducible refine (HDb.out _).mono ?_); rintro e w' ⟨rfl, rfl⟩)))
    go_ret2
    exact ⟨by rw [HR.out]; rfl, nd, rfl⟩
  | true =>
  have HDb : Hid (∀ W, Calls Tryz.prog 144 #[.string (bs b0)] W fun e w' => e = .returned (.bool true) ∧ w' = W) := fun W => by rw [← db]; exact digits_any _ hbl.out W
  have HF : Hid ((!digB a || (a == [48]) || !digB b0 || (false && (b0 == [48]))) = false) := by rw [da, ea, db]; exact rfl
  have hda := dig_all da
  have hdb := dig_all db
  clear da db
  by_cases ha : 16 < a.length
  · have HR : Hid (R = (0, 1)) := by rw [HR0.out]; unfold parseNum; rw [HF.out, if_neg (by decide), if_pos (Or.inl ha)]; exact rfl
    have HSa : Hid (∀ W, Calls Tryz.prog 145 #[.string (bs a), .int .i64 16] W fun e w' => e = .returned (.tuple #[.int .i64 0, .bool false]) ∧ w' = W) := fun W => by
      have := small_any a 16 (by omega) hal.out hda W
      rw [if_neg (by omega)] at this; exact this
    obtain ⟨v, o, hv⟩ := small_some b0 5 (by omega) hbl.out hdb
    have HSb : Hid (∀ W, Calls Tryz.prog 145 #[.string (bs b0), .int .i64 5] W fun e w' => e = .returned (.tuple #[.int .i64 v, .bool o]) ∧ w' = W) := hv
    clear ha hv hda hdb
    go_enter Tryz.func110, Tryz.ntmps110
    go_wp2_with (first | (go_at_call 143; ((with_reducible refine (HC.out _).mono ?_); rintro e w' ⟨rfl, nd, rfl⟩)) | (go_at_call 144; ((with_reducible refine (HDa.out _).mono ?_); rintro e w' ⟨rfl, rfl⟩)) | (go_at_call 144; ((with_reducible refine (HDb.out _).mono ?_); rintro e w' ⟨rfl, rfl⟩)) | (go_at_call 145; ((with_reducible refine (HSa.out _).mono ?_); rintro e w' ⟨rfl, rfl⟩)) | (go_at_call 145; ((with_reducible refine (HSb.out _).mono ?_); rintro e w' ⟨rfl, rfl⟩)))
    go_ret2
    exact ⟨by rw [HR.out]; rfl, nd, rfl⟩
  have HSa : Hid (∀ W, Calls Tryz.prog 145 #[.string (bs a), .int .i64 16] W fun e w' => e = .returned (.tuple #[.int .i64 (decTo a a.length : Int), .bool true]) ∧ w' = W) := fun W => by
    have := small_any a 16 (by omega) hal.out hda W
    rw [if_pos (by omega)] at this; exact this
  have hMb := decTo_bd a a.length ((all_bAt a isDig).1 hda)
  have hMb2 : 10 ^ a.length ≤ 10 ^ 16 := Nat.pow_le_pow_right (by decide) (by omega)
  have hMb3 : decTo a a.length < 10000000000000000 := Nat.lt_of_lt_of_le hMb hMb2
  clear hMb hMb2
  by_cases hb : 5 < b0.length
  · have HR : Hid (R = (0, 1)) := by rw [HR0.out]; unfold parseNum; rw [HF.out, if_neg (by decide), if_pos (Or.inr (Or.inl hb))]; exact rfl
    have HSb : Hid (∀ W, Calls Tryz.prog 145 #[.string (bs b0), .int .i64 5] W fun e w' => e = .returned (.tuple #[.int .i64 0, .bool false]) ∧ w' = W) := fun W => by
      have := small_any b0 5 (by omega) hbl.out hdb W
      rw [if_neg (by omega)] at this; exact this
    clear ha hb hda hdb hMb3 HF HR0
    generalize ((decTo a a.length : Nat) : Int) = m at *
    go_enter Tryz.func110, Tryz.ntmps110
    go_wp2_with (first | (go_at_call 143; ((with_reducible refine (HC.out _).mono ?_); rintro e w' ⟨rfl, nd, rfl⟩)) | (go_at_call 144; ((with_reducible refine (HDa.out _).mono ?_); rintro e w' ⟨rfl, rfl⟩)) | (go_at_call 144; ((with_reducible refine (HDb.out _).mono ?_); rintro e w' ⟨rfl, rfl⟩)) | (go_at_call 145; ((with_reducible refine (HSa.out _).mono ?_); rintro e w' ⟨rfl, rfl⟩)) | (go_at_call 145; ((with_reducible refine (HSb.out _).mono ?_); rintro e w' ⟨rfl, rfl⟩)))
    go_ret2
    exact ⟨by rw [HR.out]; rfl, nd, rfl⟩
  have HSb : Hid (∀ W, Calls Tryz.prog 145 #[.string (bs b0), .int .i64 5] W fun e w' => e = .returned (.tuple #[.int .i64 (decTo b0 b0.length : Int), .bool true]) ∧ w' = W) := fun W => by
    have := small_any b0 5 (by omega) hbl.out hdb W
    rw [if_pos (by omega)] at this; exact this
  have hEb := decTo_bd b0 b0.length ((all_bAt b0 isDig).1 hdb)
  have hEb2 : 10 ^ b0.length ≤ 10 ^ 5 := Nat.pow_le_pow_right (by decide) (by omega)
  have hEb3 : decTo b0 b0.length < 100000 := Nat.lt_of_lt_of_le hEb hEb2
  clear hEb hEb2
  by_cases hM : 9007199254740992 ≤ decTo a a.length
  · have HR : Hid (R = (0, 1)) := by rw [HR0.out]; unfold parseNum; rw [HF.out, if_neg (by decide), if_pos (Or.inr (Or.inr (Or.inl hM)))]; exact rfl
    have hd : decide ((9007199254740992 : Int) ≤ ((decTo a a.length : Nat) : Int)) = true := decide_eq_true (by omega)
    clear ha hb hda hdb hMb3 hEb3 hM HF HR0
    generalize ((decTo a a.length : Nat) : Int) = m at *
    generalize ((decTo b0 b0.length : Nat) : Int) = p at *
    go_enter Tryz.func110, Tryz.ntmps110
    go_wp2_with (first | (go_at_call 143; ((with_reducible refine (HC.out _).mono ?_); rintro e w' ⟨rfl, nd, rfl⟩)) | (go_at_call 144; ((with_reducible refine (HDa.out _).mono ?_); rintro e w' ⟨rfl, rfl⟩)) | (go_at_call 144; ((with_reducible refine (HDb.out _).mono ?_); rintro e w' ⟨rfl, rfl⟩)) | (go_at_call 145; ((with_reducible refine (HSa.out _).mono ?_); rintro e w' ⟨rfl, rfl⟩)) | (go_at_call 145; ((with_reducible refine (HSb.out _).mono ?_); rintro e w' ⟨rfl, rfl⟩)))
    go_ret2
    exact ⟨by rw [HR.out]; rfl, nd, rfl⟩
  by_cases hod : decTo a a.length % 2 = 0
  · have HR : Hid (R = (0, 1)) := by rw [HR0.out]; unfold parseNum; rw [HF.out, if_neg (by decide), if_pos (Or.inr (Or.inr (Or.inr hod)))]; exact rfl
    have hd : decide ((9007199254740992 : Int) ≤ ((decTo a a.length : Nat) : Int)) = false := decide_eq_false (by omega)
    have hm0 : (0 : Int) ≤ ((decTo a a.length : Nat) : Int) := by omega
    have he : (((decTo a a.length : Nat) : Int) % 2 == 0) = true := by rw [beq_iff_eq]; omega
    clear ha hb hda hdb hMb3 hEb3 hM hod HF HR0
    generalize ((decTo a a.length : Nat) : Int) = m at *
    generalize ((decTo b0 b0.length : Nat) : Int) = p at *
    go_enter Tryz.func110, Tryz.ntmps110
    go_wp2_with (first | (go_at_call 143; ((with_reducible refine (HC.out _).mono ?_); rintro e w' ⟨rfl, nd, rfl⟩)) | (go_at_call 144; ((with_reducible refine (HDa.out _).mono ?_); rintro e w' ⟨rfl, rfl⟩)) | (go_at_call 144; ((with_reducible refine (HDb.out _).mono ?_); rintro e w' ⟨rfl, rfl⟩)) | (go_at_call 145; ((with_reducible refine (HSa.out _).mono ?_); rintro e w' ⟨rfl, rfl⟩)) | (go_at_call 145; ((with_reducible refine (HSb.out _).mono ?_); rintro e w' ⟨rfl, rfl⟩)))
    go_ret2
    exact ⟨by rw [HR.out]; rfl, nd, rfl⟩
  have HN : Hid (¬(16 < a.length ∨ 5 < b0.length ∨ 9007199254740992 ≤ decTo a a.length ∨ decTo a a.length % 2 = 0)) := by
    rintro (h | h | h | h)
    · exact ha h
    · exact hb h
    · exact hM h
    · exact hod h
  have hP : Hid (R = if ((decTo b0 b0.length : Int)) < -1074 ∨ 1024 < (Lib.bitLen (decTo a a.length) : Int) + ((decTo b0 b0.length : Int)) then (0, 1) else (ldW (decTo a a.length) ((decTo b0 b0.length : Int)), 0)) := by
    rw [HR0.out]; unfold parseNum; rw [HF.out, if_neg (by decide), if_neg HN.out]; exact rfl
  clear ha hb hda hdb HF HN HR0
  have HLn : Hid (∀ W, Calls Tryz.prog 140 #[.int .u64 (decTo a a.length : Int)] W fun e w' => e = .returned (.int .i64 (Lib.bitLen (decTo a a.length) : Int)) ∧ w' = W) := fun W => Tryz.bits_Len64 _ W (by omega) (by omega)
  have hd : decide ((9007199254740992 : Int) ≤ ((decTo a a.length : Nat) : Int)) = false := decide_eq_false (by omega)
  have hm0 : (0 : Int) ≤ ((decTo a a.length : Nat) : Int) := by omega
  have hm1 : ((decTo a a.length : Nat) : Int) ≤ 10000000000000000 := by omega
  have he : (((decTo a a.length : Nat) : Int) % 2 == 0) = false := beq_eq_false_iff_ne.2 (by omega)
  have hp0 : (0 : Int) ≤ ((decTo b0 b0.length : Nat) : Int) := by omega
  have hp1 : ((decTo b0 b0.length : Nat) : Int) ≤ 100000 := by omega
  have hbl2 := bitLen_log2 (decTo a a.length) (by omega) (by omega)
  have hlg := (Nat.log2_lt (show decTo a a.length ≠ 0 by omega) (k := 53)).2 (by omega)
  have hcv := conv_nat (decTo a a.length) (by omega) (by omega)
  have hq0 : (0 : Int) ≤ (Lib.bitLen (decTo a a.length) : Int) := by omega
  have hq1 : (Lib.bitLen (decTo a a.length) : Int) ≤ 64 := by omega
  by_cases hlo : ((decTo b0 b0.length : Int)) < -1074
  · have HR : Hid (R = (0, 1)) := by rw [hP.out, if_pos (Or.inl hlo)]; exact rfl
    have h1 : decide (((decTo b0 b0.length : Int)) < -1074) = true := decide_eq_true hlo
    clear hbl2 hcv hlg hlo hq0 hq1 HLn hP hM hod hMb3 hEb3
    generalize ((decTo a a.length : Nat) : Int) = m at *
    generalize ((decTo b0 b0.length : Nat) : Int) = p at *
    go_enter Tryz.func110, Tryz.ntmps110
    go_wp2_with (first | (go_at_call 143; ((with_reducible refine (HC.out _).mono ?_); rintro e w' ⟨rfl, nd, rfl⟩)) | (go_at_call 144; ((with_reducible refine (HDa.out _).mono ?_); rintro e w' ⟨rfl, rfl⟩)) | (go_at_call 144; ((with_reducible refine (HDb.out _).mono ?_); rintro e w' ⟨rfl, rfl⟩)) | (go_at_call 145; ((with_reducible refine (HSa.out _).mono ?_); rintro e w' ⟨rfl, rfl⟩)) | (go_at_call 145; ((with_reducible refine (HSb.out _).mono ?_); rintro e w' ⟨rfl, rfl⟩)))
    go_ret2
    exact ⟨by rw [HR.out]; rfl, nd, rfl⟩
  have h1 : decide (((decTo b0 b0.length : Int)) < -1074) = false := decide_eq_false hlo
  by_cases hhi : 1024 < (Lib.bitLen (decTo a a.length) : Int) + ((decTo b0 b0.length : Int))
  · have HR : Hid (R = (0, 1)) := by rw [hP.out, if_pos (Or.inr hhi)]; exact rfl
    have h2 : decide (1024 < (Lib.bitLen (decTo a a.length) : Int) + ((decTo b0 b0.length : Int))) = true := decide_eq_true hhi
    clear hbl2 hcv hlg hlo hhi hP hM hod hMb3 hEb3
    generalize (Lib.bitLen (decTo a a.length) : Int) = q at *
    generalize ((decTo a a.length : Nat) : Int) = m at *
    generalize ((decTo b0 b0.length : Nat) : Int) = p at *
    go_enter Tryz.func110, Tryz.ntmps110
    go_wp2_with (first | (go_at_call 143; ((with_reducible refine (HC.out _).mono ?_); rintro e w' ⟨rfl, nd, rfl⟩)) | (go_at_call 144; ((with_reducible refine (HDa.out _).mono ?_); rintro e w' ⟨rfl, rfl⟩)) | (go_at_call 144; ((with_reducible refine (HDb.out _).mono ?_); rintro e w' ⟨rfl, rfl⟩)) | (go_at_call 145; ((with_reducible refine (HSa.out _).mono ?_); rintro e w' ⟨rfl, rfl⟩)) | (go_at_call 145; ((with_reducible refine (HSb.out _).mono ?_); rintro e w' ⟨rfl, rfl⟩)) | (go_at_call 140; ((with_reducible refine (HLn.out _).mono ?_); rintro e w' ⟨rfl, rfl⟩)))
    go_ret2
    exact ⟨by rw [HR.out]; rfl, nd, rfl⟩
  have h2 : decide (1024 < (Lib.bitLen (decTo a a.length) : Int) + ((decTo b0 b0.length : Int))) = false := decide_eq_false hhi
  have HI : Hid (InR (decTo a a.length) ((decTo b0 b0.length : Int))) := ⟨by omega, by omega, by omega, by omega⟩
  have HR : Hid (R = (ldW (decTo a a.length) ((decTo b0 b0.length : Int)), 0)) := by rw [hP.out, if_neg (by rintro (h | h); exact hlo h; exact hhi h)]; exact rfl
  have HLd : Hid (∀ W, Calls Tryz.prog 117 #[.float .f64 (fb (fOf (decTo a a.length))), .int .i64 ((decTo b0 b0.length : Int))] W fun v w' => v = .returned (.float .f64 (fb (ldW (decTo a a.length) ((decTo b0 b0.length : Int))))) ∧ w' = W) := fun W => Ldexp_fits _ _ HI.out W
  generalize ldW (decTo a a.length) ((decTo b0 b0.length : Int)) = X at *
  generalize fOf (decTo a a.length) = Y at *
  clear hbl2 hlg hP hlo hhi HI hM hod hMb3 hEb3
  generalize (Lib.bitLen (decTo a a.length) : Int) = q at *
  generalize ((decTo a a.length : Nat) : Int) = m at *
  generalize ((decTo b0 b0.length : Nat) : Int) = p at *
  go_enter Tryz.func110, Tryz.ntmps110
  go_wp2_with (first | (go_at_call 143; ((with_reducible refine (HC.out _).mono ?_); rintro e w' ⟨rfl, nd, rfl⟩)) | (go_at_call 144; ((with_reducible refine (HDa.out _).mono ?_); rintro e w' ⟨rfl, rfl⟩)) | (go_at_call 144; ((with_reducible refine (HDb.out _).mono ?_); rintro e w' ⟨rfl, rfl⟩)) | (go_at_call 145; ((with_reducible refine (HSa.out _).mono ?_); rintro e w' ⟨rfl, rfl⟩)) | (go_at_call 145; ((with_reducible refine (HSb.out _).mono ?_); rintro e w' ⟨rfl, rfl⟩)) | (go_at_call 140; ((with_reducible refine (HLn.out _).mono ?_); rintro e w' ⟨rfl, rfl⟩)) | (go_at_call 117; ((with_reducible refine (HLd.out _).mono ?_); rintro e w' ⟨rfl, rfl⟩)))
  go_ret2
  exact ⟨by rw [HR.out]; rfl, nd, rfl⟩
end Go.Proofs.YtalpbphfmelhhaaGreatDoor

/-! ### The walk of num's Parse behind its five words, by the signs. Written by a program (e22.py). -/
namespace Go.Proofs.YtalpbphfmelhhaaGreatDoor
set_option maxRecDepth 100000
open Go.RowKit Go.Shelf Go.Sort
attribute [local go_sem] bs_size bs_get bs_toList neg_run

set_option maxRecDepth 100000 in
set_option maxHeartbeats 400000 in
theorem parse_n_empty (l t a : List UInt8) (w : World) (L1 : (l == [110, 97, 110]) = false) (L2 : (l == [105, 110, 102]) = false) (L3 : (l == [45, 105, 110, 102]) = false) (L4 : (l == [48]) = false) (L5 : (l == [45, 48]) = false)
    (hl0 : 0 < l.length) (hlE : l.isEmpty = false) (hsg : (((bAt l 0).toNat : Int) == 45) = true)
    (hsl : (bs l).extract 1 l.length = bs t)
    (HC : Hid (∀ W, Calls Tryz.prog 143 #[.string (bs t)] W fun e w' => e = .returned (.tuple #[.string (bs a), .string (bs []), .bool true]) ∧ ∃ nd, w' = W.drewN nd))
    (hal : Hid (a.length ≤ 4611686018427387904)) :
    Calls Tryz.prog 110 #[.string (bs l)] w fun e w' => e = .returned (.tuple #[.float .f64 (fb (parseNum true a false []).1), .int .i64 (parseNum true a false []).2]) ∧ ∃ nd, w' = w.drewN nd := by
  obtain ⟨R, HR0⟩ : ∃ R, Hid (R = parseNum true a false []) := ⟨_, rfl⟩
  rw [← HR0.out]
  cases da : digB a with
  | false =>
    have HR : Hid (R = (0, 4)) := by rw [HR0.out]; unfold parseNum; rw [da]; exact rfl
    have HDa : Hid (∀ W, Calls Tryz.prog 144 #[.string (bs a)] W fun e w' => e = .returned (.bool false) ∧ w' = W) := fun W => by rw [← da]; exact digits_any a hal.out W
    clear da
    go_enter Tryz.func110, Tryz.ntmps110
    go_wp2_with (first | (go_at_call 143; ((with_reducible refine (HC.out _).mono ?_); rintro e w' ⟨rfl, nd, rfl⟩)) | (go_at_call 144; ((with_reducible refine (HDa.out _).mono ?_); rintro e w' ⟨rfl, rfl⟩)))
    go_ret2
    exact ⟨by rw [HR.out]; rfl, nd, rfl⟩
  | true =>
  have HDa : Hid (∀ W, Calls Tryz.prog 144 #[.string (bs a)] W fun e w' => e = .returned (.bool true) ∧ w' = W) := fun W => by rw [← da]; exact digits_any a hal.out W
  cases ea : (a == [48]) with
  | true =>
    have HR : Hid (R = (0, 4)) := by rw [HR0.out]; unfold parseNum; rw [da, ea]; exact rfl
    clear da
    go_enter Tryz.func110, Tryz.ntmps110
    go_wp2_with (first | (go_at_call 143; ((with_reducible refine (HC.out _).mono ?_); rintro e w' ⟨rfl, nd, rfl⟩)) | (go_at_call 144; ((with_reducible refine (HDa.out _).mono ?_); rintro e w' ⟨rfl, rfl⟩)))
    go_ret2
    exact ⟨by rw [HR.out]; rfl, nd, rfl⟩
  | false =>
  have HR : Hid (R = (0, 4)) := by rw [HR0.out]; unfold parseNum; rw [da, ea]; exact rfl
  have HDb : Hid (∀ W, Calls Tryz.prog 144 #[.string (bs [])] W fun e w' => e = .returned (.bool false) ∧ w' = W) := fun W => digits_any [] (by decide) W
  clear da
  go_enter Tryz.func110, Tryz.ntmps110
  go_wp2_with (first | (go_at_call 143; ((with_reducible refine (HC.out _).mono ?_); rintro e w' ⟨rfl, nd, rfl⟩)) | (go_at_call 144; ((with_reducible refine (HDa.out _).mono ?_); rintro e w' ⟨rfl, rfl⟩)) | (go_at_call 144; ((with_reducible refine (HDb.out _).mono ?_); rintro e w' ⟨rfl, rfl⟩)))
  go_ret2
  exact ⟨by rw [HR.out]; rfl, nd, rfl⟩
end Go.Proofs.YtalpbphfmelhhaaGreatDoor

/-! ### The walk of num's Parse behind its five words, by the signs. Written by a program (e22.py). -/
namespace Go.Proofs.YtalpbphfmelhhaaGreatDoor
set_option maxRecDepth 100000
open Go.RowKit Go.Shelf Go.Sort
attribute [local go_sem] bs_size bs_get bs_toList neg_run

set_option maxRecDepth 100000 in
set_option maxHeartbeats 400000 in
theorem parse_n_down (l t a b0 b : List UInt8) (w : World) (L1 : (l == [110, 97, 110]) = false) (L2 : (l == [105, 110, 102]) = false) (L3 : (l == [45, 105, 110, 102]) = false) (L4 : (l == [48]) = false) (L5 : (l == [45, 48]) = false)
    (hl0 : 0 < l.length) (hlE : l.isEmpty = false) (hsg : (((bAt l 0).toNat : Int) == 45) = true)
    (hsl : (bs l).extract 1 l.length = bs t)
    (HC : Hid (∀ W, Calls Tryz.prog 143 #[.string (bs t)] W fun e w' => e = .returned (.tuple #[.string (bs a), .string (bs b0), .bool true]) ∧ ∃ nd, w' = W.drewN nd))
    (hbE : b0.isEmpty = false) (hb0 : 0 < b0.length) (hbs : (((bAt b0 0).toNat : Int) == 45) = true)
    (hbx : (bs b0).extract 1 b0.length = bs b)
    (hal : Hid (a.length ≤ 4611686018427387904)) (hbl : Hid (b.length ≤ 4611686018427387904)) :
    Calls Tryz.prog 110 #[.string (bs l)] w fun e w' => e = .returned (.tuple #[.float .f64 (fb (parseNum true a true b).1), .int .i64 (parseNum true a true b).2]) ∧ ∃ nd, w' = w.drewN nd := by
  obtain ⟨R, HR0⟩ : ∃ R, Hid (R = parseNum true a true b) := ⟨_, rfl⟩
  rw [← HR0.out]
  cases da : digB a with
  | false =>
    have HR : Hid (R = (0, 4)) := by rw [HR0.out]; unfold parseNum; rw [da]; exact rfl
    have HDa : Hid (∀ W, Calls Tryz.prog 144 #[.string (bs a)] W fun e w' => e = .returned (.bool false) ∧ w' = W) := fun W => by rw [← da]; exact digits_any a hal.out W
    clear da
    go_enter Tryz.func110, Tryz.ntmps110
    go_wp2_with (first | (go_at_call 143; ((with_reducible refine (HC.out _).mono ?_); rintro e w' ⟨rfl, nd, rfl⟩)) | (go_at_call 144; ((with_reducible refine (HDa.out _).mono ?_); rintro e w' ⟨rfl, rfl⟩)))
    go_ret2
    exact ⟨by rw [HR.out]; rfl, nd, rfl⟩
  | true =>
  have HDa : Hid (∀ W, Calls Tryz.prog 144 #[.string (bs a)] W fun e w' => e = .returned (.bool true) ∧ w' = W) := fun W => by rw [← da]; exact digits_any a hal.out W
  cases ea : (a == [48]) with
  | true =>
    have HR : Hid (R = (0, 4)) := by rw [HR0.out]; unfold parseNum; rw [da, ea]; exact rfl
    clear da
    go_enter Tryz.func110, Tryz.ntmps110
    go_wp2_with (first | (go_at_call 143; ((with_reducible refine (HC.out _).mono ?_); rintro e w' ⟨rfl, nd, rfl⟩)) | (go_at_call 144; ((with_reducible refine (HDa.out _).mono ?_); rintro e w' ⟨rfl, rfl⟩)))
    go_ret2
    exact ⟨by rw [HR.out]; rfl, nd, rfl⟩
  | false =>
  cases db : digB b with
  | false =>
    have HR : Hid (R = (0, 4)) := by rw [HR0.out]; unfold parseNum; rw [da, ea, db]; exact rfl
    have HDb : Hid (∀ W, Calls Tryz.prog 144 #[.string (bs b)] W fun e w' => e = .returned (.bool false) ∧ w' = W) := fun W => by rw [← db]; exact digits_any _ hbl.out W
    clear da db
    go_enter Tryz.func110, Tryz.ntmps110
    go_wp2_with (first | (go_at_call 143; ((with_reducible refine (HC.out _).mono ?_); rintro e w' ⟨rfl, nd, rfl⟩)) | (go_at_call 144; ((with_reducible refine (HDa.out _).mono ?_); rintro e w' ⟨rfl, rfl⟩)) | (go_at_call 144; ((with_reducible refine (HDb.out _).mono ?_); rintro e w' ⟨rfl, rfl⟩)))
    go_ret2
    exact ⟨by rw [HR.out]; rfl, nd, rfl⟩
  | true =>
  have HDb : Hid (∀ W, Calls Tryz.prog 144 #[.string (bs b)] W fun e w' => e = .returned (.bool true) ∧ w' = W) := fun W => by rw [← db]; exact digits_any _ hbl.out W
  cases eb : (b == [48]) with
  | true =>
    have HR : Hid (R = (0, 4)) := by rw [HR0.out]; unfold parseNum; rw [da, ea, db, eb]; exact rfl
    clear da db
    go_enter Tryz.func110, Tryz.ntmps110
    go_wp2_with (first | (go_at_call 143; ((with_reducible refine (HC.out _).mono ?_); rintro e w' ⟨rfl, nd, rfl⟩)) | (go_at_call 144; ((with_reducible refine (HDa.out _).mono ?_); rintro e w' ⟨rfl, rfl⟩)) | (go_at_call 144; ((with_reducible refine (HDb.out _).mono ?_); rintro e w' ⟨rfl, rfl⟩)))
    go_ret2
    exact ⟨by rw [HR.out]; rfl, nd, rfl⟩
  | false =>
  have HF : Hid ((!digB a || (a == [48]) || !digB b || (true && (b == [48]))) = false) := by rw [da, ea, db, eb]; exact rfl
  have hda := dig_all da
  have hdb := dig_all db
  clear da db
  by_cases ha : 16 < a.length
  · have HR : Hid (R = (0, 1)) := by rw [HR0.out]; unfold parseNum; rw [HF.out, if_neg (by decide), if_pos (Or.inl ha)]; exact rfl
    have HSa : Hid (∀ W, Calls Tryz.prog 145 #[.string (bs a), .int .i64 16] W fun e w' => e = .returned (.tuple #[.int .i64 0, .bool false]) ∧ w' = W) := fun W => by
      have := small_any a 16 (by omega) hal.out hda W
      rw [if_neg (by omega)] at this; exact this
    obtain ⟨v, o, hv⟩ := small_some b 5 (by omega) hbl.out hdb
    have HSb : Hid (∀ W, Calls Tryz.prog 145 #[.string (bs b), .int .i64 5] W fun e w' => e = .returned (.tuple #[.int .i64 v, .bool o]) ∧ w' = W) := hv
    clear ha hv hda hdb
    go_enter Tryz.func110, Tryz.ntmps110
    go_wp2_with (first | (go_at_call 143; ((with_reducible refine (HC.out _).mono ?_); rintro e w' ⟨rfl, nd, rfl⟩)) | (go_at_call 144; ((with_reducible refine (HDa.out _).mono ?_); rintro e w' ⟨rfl, rfl⟩)) | (go_at_call 144; ((with_reducible refine (HDb.out _).mono ?_); rintro e w' ⟨rfl, rfl⟩)) | (go_at_call 145; ((with_reducible refine (HSa.out _).mono ?_); rintro e w' ⟨rfl, rfl⟩)) | (go_at_call 145; ((with_reducible refine (HSb.out _).mono ?_); rintro e w' ⟨rfl, rfl⟩)))
    go_ret2
    exact ⟨by rw [HR.out]; rfl, nd, rfl⟩
  have HSa : Hid (∀ W, Calls Tryz.prog 145 #[.string (bs a), .int .i64 16] W fun e w' => e = .returned (.tuple #[.int .i64 (decTo a a.length : Int), .bool true]) ∧ w' = W) := fun W => by
    have := small_any a 16 (by omega) hal.out hda W
    rw [if_pos (by omega)] at this; exact this
  have hMb := decTo_bd a a.length ((all_bAt a isDig).1 hda)
  have hMb2 : 10 ^ a.length ≤ 10 ^ 16 := Nat.pow_le_pow_right (by decide) (by omega)
  have hMb3 : decTo a a.length < 10000000000000000 := Nat.lt_of_lt_of_le hMb hMb2
  clear hMb hMb2
  by_cases hb : 5 < b.length
  · have HR : Hid (R = (0, 1)) := by rw [HR0.out]; unfold parseNum; rw [HF.out, if_neg (by decide), if_pos (Or.inr (Or.inl hb))]; exact rfl
    have HSb : Hid (∀ W, Calls Tryz.prog 145 #[.string (bs b), .int .i64 5] W fun e w' => e = .returned (.tuple #[.int .i64 0, .bool false]) ∧ w' = W) := fun W => by
      have := small_any b 5 (by omega) hbl.out hdb W
      rw [if_neg (by omega)] at this; exact this
    clear ha hb hda hdb hMb3 HF HR0
    generalize ((decTo a a.length : Nat) : Int) = m at *
    go_enter Tryz.func110, Tryz.ntmps110
    go_wp2_with (first | (go_at_call 143; ((with_reducible refine (HC.out _).mono ?_); rintro e w' ⟨rfl, nd, rfl⟩)) | (go_at_call 144; ((with_reducible refine (HDa.out _).mono ?_); rintro e w' ⟨rfl, rfl⟩)) | (go_at_call 144; ((with_reducible refine (HDb.out _).mono ?_); rintro e w' ⟨rfl, rfl⟩)) | (go_at_call 145; ((with_reducible refine (HSa.out _).mono ?_); rintro e w' ⟨rfl, rfl⟩)) | (go_at_call 145; ((with_reducible refine (HSb.out _).mono ?_); rintro e w' ⟨rfl, rfl⟩)))
    go_ret2
    exact ⟨by rw [HR.out]; rfl, nd, rfl⟩
  have HSb : Hid (∀ W, Calls Tryz.prog 145 #[.string (bs b), .int .i64 5] W fun e w' => e = .returned (.tuple #[.int .i64 (decTo b b.length : Int), .bool true]) ∧ w' = W) := fun W => by
    have := small_any b 5 (by omega) hbl.out hdb W
    rw [if_pos (by omega)] at this; exact this
  have hEb := decTo_bd b b.length ((all_bAt b isDig).1 hdb)
  have hEb2 : 10 ^ b.length ≤ 10 ^ 5 := Nat.pow_le_pow_right (by decide) (by omega)
  have hEb3 : decTo b b.length < 100000 := Nat.lt_of_lt_of_le hEb hEb2
  clear hEb hEb2
  by_cases hM : 9007199254740992 ≤ decTo a a.length
  · have HR : Hid (R = (0, 1)) := by rw [HR0.out]; unfold parseNum; rw [HF.out, if_neg (by decide), if_pos (Or.inr (Or.inr (Or.inl hM)))]; exact rfl
    have hd : decide ((9007199254740992 : Int) ≤ ((decTo a a.length : Nat) : Int)) = true := decide_eq_true (by omega)
    clear ha hb hda hdb hMb3 hEb3 hM HF HR0
    generalize ((decTo a a.length : Nat) : Int) = m at *
    generalize ((decTo b b.length : Nat) : Int) = p at *
    go_enter Tryz.func110, Tryz.ntmps110
    go_wp2_with (first | (go_at_call 143; ((with_reducible refine (HC.out _).mono ?_); rintro e w' ⟨rfl, nd, rfl⟩)) | (go_at_call 144; ((with_reducible refine (HDa.out _).mono ?_); rintro e w' ⟨rfl, rfl⟩)) | (go_at_call 144; ((with_reducible refine (HDb.out _).mono ?_); rintro e w' ⟨rfl, rfl⟩)) | (go_at_call 145; ((with_reducible refine (HSa.out _).mono ?_); rintro e w' ⟨rfl, rfl⟩)) | (go_at_call 145; ((with_reducible refine (HSb.out _).mono ?_); rintro e w' ⟨rfl, rfl⟩)))
    go_ret2
    exact ⟨by rw [HR.out]; rfl, nd, rfl⟩
  by_cases hod : decTo a a.length % 2 = 0
  · have HR : Hid (R = (0, 1)) := by rw [HR0.out]; unfold parseNum; rw [HF.out, if_neg (by decide), if_pos (Or.inr (Or.inr (Or.inr hod)))]; exact rfl
    have hd : decide ((9007199254740992 : Int) ≤ ((decTo a a.length : Nat) : Int)) = false := decide_eq_false (by omega)
    have hm0 : (0 : Int) ≤ ((decTo a a.length : Nat) : Int) := by omega
    have he : (((decTo a a.length : Nat) : Int) % 2 == 0) = true := by rw [beq_iff_eq]; omega
    clear ha hb hda hdb hMb3 hEb3 hM hod HF HR0
    generalize ((decTo a a.length : Nat) : Int) = m at *
    generalize ((decTo b b.length : Nat) : Int) = p at *
    go_enter Tryz.func110, Tryz.ntmps110
    go_wp2_with (first | (go_at_call 143; ((with_reducible refine (HC.out _).mono ?_); rintro e w' ⟨rfl, nd, rfl⟩)) | (go_at_call 144; ((with_reducible refine (HDa.out _).mono ?_); rintro e w' ⟨rfl, rfl⟩)) | (go_at_call 144; ((with_reducible refine (HDb.out _).mono ?_); rintro e w' ⟨rfl, rfl⟩)) | (go_at_call 145; ((with_reducible refine (HSa.out _).mono ?_); rintro e w' ⟨rfl, rfl⟩)) | (go_at_call 145; ((with_reducible refine (HSb.out _).mono ?_); rintro e w' ⟨rfl, rfl⟩)))
    go_ret2
    exact ⟨by rw [HR.out]; rfl, nd, rfl⟩
  have HN : Hid (¬(16 < a.length ∨ 5 < b.length ∨ 9007199254740992 ≤ decTo a a.length ∨ decTo a a.length % 2 = 0)) := by
    rintro (h | h | h | h)
    · exact ha h
    · exact hb h
    · exact hM h
    · exact hod h
  have hP : Hid (R = if (-(decTo b b.length : Int)) < -1074 ∨ 1024 < (Lib.bitLen (decTo a a.length) : Int) + (-(decTo b b.length : Int)) then (0, 1) else (ldW (decTo a a.length) (-(decTo b b.length : Int)) ^^^ topW, 0)) := by
    rw [HR0.out]; unfold parseNum; rw [HF.out, if_neg (by decide), if_neg HN.out]; exact rfl
  clear ha hb hda hdb HF HN HR0
  have HLn : Hid (∀ W, Calls Tryz.prog 140 #[.int .u64 (decTo a a.length : Int)] W fun e w' => e = .returned (.int .i64 (Lib.bitLen (decTo a a.length) : Int)) ∧ w' = W) := fun W => Tryz.bits_Len64 _ W (by omega) (by omega)
  have hd : decide ((9007199254740992 : Int) ≤ ((decTo a a.length : Nat) : Int)) = false := decide_eq_false (by omega)
  have hm0 : (0 : Int) ≤ ((decTo a a.length : Nat) : Int) := by omega
  have hm1 : ((decTo a a.length : Nat) : Int) ≤ 10000000000000000 := by omega
  have he : (((decTo a a.length : Nat) : Int) % 2 == 0) = false := beq_eq_false_iff_ne.2 (by omega)
  have hp0 : (0 : Int) ≤ ((decTo b b.length : Nat) : Int) := by omega
  have hp1 : ((decTo b b.length : Nat) : Int) ≤ 100000 := by omega
  have hbl2 := bitLen_log2 (decTo a a.length) (by omega) (by omega)
  have hlg := (Nat.log2_lt (show decTo a a.length ≠ 0 by omega) (k := 53)).2 (by omega)
  have hcv := conv_nat (decTo a a.length) (by omega) (by omega)
  have hq0 : (0 : Int) ≤ (Lib.bitLen (decTo a a.length) : Int) := by omega
  have hq1 : (Lib.bitLen (decTo a a.length) : Int) ≤ 64 := by omega
  by_cases hlo : (-(decTo b b.length : Int)) < -1074
  · have HR : Hid (R = (0, 1)) := by rw [hP.out, if_pos (Or.inl hlo)]; exact rfl
    have h1 : decide ((-(decTo b b.length : Int)) < -1074) = true := decide_eq_true hlo
    have h1b : decide (1074 < (decTo b b.length : Int)) = true := decide_eq_true (by omega)
    clear hbl2 hcv hlg hlo hq0 hq1 HLn hP hM hod hMb3 hEb3
    generalize ((decTo a a.length : Nat) : Int) = m at *
    generalize ((decTo b b.length : Nat) : Int) = p at *
    go_enter Tryz.func110, Tryz.ntmps110
    go_wp2_with (first | (go_at_call 143; ((with_reducible refine (HC.out _).mono ?_); rintro e w' ⟨rfl, nd, rfl⟩)) | (go_at_call 144; ((with_reducible refine (HDa.out _).mono ?_); rintro e w' ⟨rfl, rfl⟩)) | (go_at_call 144; ((with_reducible refine (HDb.out _).mono ?_); rintro e w' ⟨rfl, rfl⟩)) | (go_at_call 145; ((with_reducible refine (HSa.out _).mono ?_); rintro e w' ⟨rfl, rfl⟩)) | (go_at_call 145; ((with_reducible refine (HSb.out _).mono ?_); rintro e w' ⟨rfl, rfl⟩)))
    go_ret2
    exact ⟨by rw [HR.out]; rfl, nd, rfl⟩
  have h1 : decide ((-(decTo b b.length : Int)) < -1074) = false := decide_eq_false hlo
  have h1b : decide (1074 < (decTo b b.length : Int)) = false := decide_eq_false (by omega)
  by_cases hhi : 1024 < (Lib.bitLen (decTo a a.length) : Int) + (-(decTo b b.length : Int))
  · have HR : Hid (R = (0, 1)) := by rw [hP.out, if_pos (Or.inr hhi)]; exact rfl
    have h2 : decide (1024 < (Lib.bitLen (decTo a a.length) : Int) + (-(decTo b b.length : Int))) = true := decide_eq_true hhi
    clear hbl2 hcv hlg hlo hhi hP hM hod hMb3 hEb3
    generalize (Lib.bitLen (decTo a a.length) : Int) = q at *
    generalize ((decTo a a.length : Nat) : Int) = m at *
    generalize ((decTo b b.length : Nat) : Int) = p at *
    go_enter Tryz.func110, Tryz.ntmps110
    go_wp2_with (first | (go_at_call 143; ((with_reducible refine (HC.out _).mono ?_); rintro e w' ⟨rfl, nd, rfl⟩)) | (go_at_call 144; ((with_reducible refine (HDa.out _).mono ?_); rintro e w' ⟨rfl, rfl⟩)) | (go_at_call 144; ((with_reducible refine (HDb.out _).mono ?_); rintro e w' ⟨rfl, rfl⟩)) | (go_at_call 145; ((with_reducible refine (HSa.out _).mono ?_); rintro e w' ⟨rfl, rfl⟩)) | (go_at_call 145; ((with_reducible refine (HSb.out _).mono ?_); rintro e w' ⟨rfl, rfl⟩)) | (go_at_call 140; ((with_reducible refine (HLn.out _).mono ?_); rintro e w' ⟨rfl, rfl⟩)))
    go_ret2
    exact ⟨by rw [HR.out]; rfl, nd, rfl⟩
  have h2 : decide (1024 < (Lib.bitLen (decTo a a.length) : Int) + (-(decTo b b.length : Int))) = false := decide_eq_false hhi
  have HI : Hid (InR (decTo a a.length) (-(decTo b b.length : Int))) := ⟨by omega, by omega, by omega, by omega⟩
  have HR : Hid (R = (ldW (decTo a a.length) (-(decTo b b.length : Int)) ^^^ topW, 0)) := by rw [hP.out, if_neg (by rintro (h | h); exact hlo h; exact hhi h)]; exact rfl
  have HLd : Hid (∀ W, Calls Tryz.prog 117 #[.float .f64 (fb (fOf (decTo a a.length))), .int .i64 (-(decTo b b.length : Int))] W fun v w' => v = .returned (.float .f64 (fb (ldW (decTo a a.length) (-(decTo b b.length : Int))))) ∧ w' = W) := fun W => Ldexp_fits _ _ HI.out W
  generalize ldW (decTo a a.length) (-(decTo b b.length : Int)) = X at *
  generalize fOf (decTo a a.length) = Y at *
  clear hbl2 hlg hP hlo hhi HI hM hod hMb3 hEb3
  generalize (Lib.bitLen (decTo a a.length) : Int) = q at *
  generalize ((decTo a a.length : Nat) : Int) = m at *
  generalize ((decTo b b.length : Nat) : Int) = p at *
  go_enter Tryz.func110, Tryz.ntmps110
  go_wp2_with (first | (go_at_call 143; ((with_reducible refine (HC.out _).mono ?_); rintro e w' ⟨rfl, nd, rfl⟩)) | (go_at_call 144; ((with_reducible refine (HDa.out _).mono ?_); rintro e w' ⟨rfl, rfl⟩)) | (go_at_call 144; ((with_reducible refine (HDb.out _).mono ?_); rintro e w' ⟨rfl, rfl⟩)) | (go_at_call 145; ((with_reducible refine (HSa.out _).mono ?_); rintro e w' ⟨rfl, rfl⟩)) | (go_at_call 145; ((with_reducible refine (HSb.out _).mono ?_); rintro e w' ⟨rfl, rfl⟩)) | (go_at_call 140; ((with_reducible refine (HLn.out _).mono ?_); rintro e w' ⟨rfl, rfl⟩)) | (go_at_call 117; ((with_reducible refine (HLd.out _).mono ?_); rintro e w' ⟨rfl, rfl⟩)))
  go_ret2
  exact ⟨by rw [HR.out]; rfl, nd, rfl⟩
end Go.Proofs.YtalpbphfmelhhaaGreatDoor

/-! ### The walk of num's Parse behind its five words, by the signs. Written by a program (e22.py). -/
namespace Go.Proofs.YtalpbphfmelhhaaGreatDoor
set_option maxRecDepth 100000
open Go.RowKit Go.Shelf Go.Sort
attribute [local go_sem] bs_size bs_get bs_toList neg_run

set_option maxRecDepth 100000 in
set_option maxHeartbeats 400000 in
theorem parse_n_plain (l t a b0 : List UInt8) (w : World) (L1 : (l == [110, 97, 110]) = false) (L2 : (l == [105, 110, 102]) = false) (L3 : (l == [45, 105, 110, 102]) = false) (L4 : (l == [48]) = false) (L5 : (l == [45, 48]) = false)
    (hl0 : 0 < l.length) (hlE : l.isEmpty = false) (hsg : (((bAt l 0).toNat : Int) == 45) = true)
    (hsl : (bs l).extract 1 l.length = bs t)
    (HC : Hid (∀ W, Calls Tryz.prog 143 #[.string (bs t)] W fun e w' => e = .returned (.tuple #[.string (bs a), .string (bs b0), .bool true]) ∧ ∃ nd, w' = W.drewN nd))
    (hbE : b0.isEmpty = false) (hb0 : 0 < b0.length) (hbs : (((bAt b0 0).toNat : Int) == 45) = false)
    (hal : Hid (a.length ≤ 4611686018427387904)) (hbl : Hid (b0.length ≤ 4611686018427387904)) :
    Calls Tryz.prog 110 #[.string (bs l)] w fun e w' => e = .returned (.tuple #[.float .f64 (fb (parseNum true a false b0).1), .int .i64 (parseNum true a false b0).2]) ∧ ∃ nd, w' = w.drewN nd := by
  obtain ⟨R, HR0⟩ : ∃ R, Hid (R = parseNum true a false b0) := ⟨_, rfl⟩
  rw [← HR0.out]
  cases da : digB a with
  | false =>
    have HR : Hid (R = (0, 4)) := by rw [HR0.out]; unfold parseNum; rw [da]; exact rfl
    have HDa : Hid (∀ W, Calls Tryz.prog 144 #[.string (bs a)] W fun e w' => e = .returned (.bool false) ∧ w' = W) := fun W => by rw [← da]; exact digits_any a hal.out W
    clear da
    go_enter Tryz.func110, Tryz.ntmps110
    go_wp2_with (first | (go_at_call 143; ((with_reducible refine (HC.out _).mono ?_); rintro e w' ⟨rfl, nd, rfl⟩)) | (go_at_call 144; ((with_reducible refine (HDa.out _).mono ?_); rintro e w' ⟨rfl, rfl⟩)))
    go_ret2
    exact ⟨by rw [HR.out]; rfl, nd, rfl⟩
  | true =>
  have HDa : Hid (∀ W, Calls Tryz.prog 144 #[.string (bs a)] W fun e w' => e = .returned (.bool true) ∧ w' = W) := fun W => by rw [← da]; exact digits_any a hal.out W
  cases ea : (a == [48]) with
  | true =>
    have HR : Hid (R = (0, 4)) := by rw [HR0.out]; unfold parseNum; rw [da, ea]; exact rfl
    clear da
    go_enter Tryz.func110, Tryz.ntmps110
    go_wp2_with (first | (go_at_call 143; ((with_reducible refine (HC.out _).mono ?_); rintro e w' ⟨rfl, nd, rfl⟩)) | (go_at_call 144; ((with_reducible refine (HDa.out _).mono ?_); rintro e w' ⟨rfl, rfl⟩)))
    go_ret2
    exact ⟨by rw [HR.out]; rfl, nd, rfl⟩
  | false =>
  cases db : digB b0 with
  | false =>
    have HR : Hid (R = (0, 4)) := by rw [HR0.out]; unfold parseNum; rw [da, ea, db]; exact rfl
    have HDb : Hid (∀ W, Calls Tryz.prog 144 #[.string (bs b0)] W fun e w' => e = .returned (.bool false) ∧ w' = W) := fun W => by rw [← db]; exact digits_any _ hbl.out W
    clear da db
    go_enter Tryz.func110, Tryz.ntmps110
    go_wp2_with (first | (go_at_call 143; ((with_reducible refine (HC.out _).mono ?_); rintro e w' ⟨rfl, nd, rfl⟩)) | (go_at_call 144; ((with_reducible refine (HDa.out _).mono ?_); rintro e w' ⟨rfl, rfl⟩)) | (go_at_call 144; ((with_reducible refine (HDb.out _).mono ?_); rintro e w' ⟨rfl, rfl⟩)))
    go_ret2
    exact ⟨by rw [HR.out]; rfl, nd, rfl⟩
  | true =>
  have HDb : Hid (∀ W, Calls Tryz.prog 144 #[.string (bs b0)] W fun e w' => e = .returned (.bool true) ∧ w' = W) := fun W => by rw [← db]; exact digits_any _ hbl.out W
  have HF : Hid ((!digB a || (a == [48]) || !digB b0 || (false && (b0 == [48]))) = false) := by rw [da, ea, db]; exact rfl
  have hda := dig_all da
  have hdb := dig_all db
  clear da db
  by_cases ha : 16 < a.length
  · have HR : Hid (R = (0, 1)) := by rw [HR0.out]; unfold parseNum; rw [HF.out, if_neg (by decide), if_pos (Or.inl ha)]; exact rfl
    have HSa : Hid (∀ W, Calls Tryz.prog 145 #[.string (bs a), .int .i64 16] W fun e w' => e = .returned (.tuple #[.int .i64 0, .bool false]) ∧ w' = W) := fun W => by
      have := small_any a 16 (by omega) hal.out hda W
      rw [if_neg (by omega)] at this; exact this
    obtain ⟨v, o, hv⟩ := small_some b0 5 (by omega) hbl.out hdb
    have HSb : Hid (∀ W, Calls Tryz.prog 145 #[.string (bs b0), .int .i64 5] W fun e w' => e = .returned (.tuple #[.int .i64 v, .bool o]) ∧ w' = W) := hv
    clear ha hv hda hdb
    go_enter Tryz.func110, Tryz.ntmps110
    go_wp2_with (first | (go_at_call 143; ((with_reducible refine (HC.out _).mono ?_); rintro e w' ⟨rfl, nd, rfl⟩)) | (go_at_call 144; ((with_reducible refine (HDa.out _).mono ?_); rintro e w' ⟨rfl, rfl⟩)) | (go_at_call 144; ((with_reducible refine (HDb.out _).mono ?_); rintro e w' ⟨rfl, rfl⟩)) | (go_at_call 145; ((with_reducible refine (HSa.out _).mono ?_); rintro e w' ⟨rfl, rfl⟩)) | (go_at_call 145; ((with_reducible refine (HSb.out _).mono ?_); rintro e w' ⟨rfl, rfl⟩)))
    go_ret2
    exact ⟨by rw [HR.out]; rfl, nd, rfl⟩
  have HSa : Hid (∀ W, Calls Tryz.prog 145 #[.string (bs a), .int .i64 16] W fun e w' => e = .returned (.tuple #[.int .i64 (decTo a a.length : Int), .bool true]) ∧ w' = W) := fun W => by
    have := small_any a 16 (by omega) hal.out hda W
    rw [if_pos (by omega)] at this; exact this
  have hMb := decTo_bd a a.length ((all_bAt a isDig).1 hda)
  have hMb2 : 10 ^ a.length ≤ 10 ^ 16 := Nat.pow_le_pow_right (by decide) (by omega)
  have hMb3 : decTo a a.length < 10000000000000000 := Nat.lt_of_lt_of_le hMb hMb2
  clear hMb hMb2
  by_cases hb : 5 < b0.length
  · have HR : Hid (R = (0, 1)) := by rw [HR0.out]; unfold parseNum; rw [HF.out, if_neg (by decide), if_pos (Or.inr (Or.inl hb))]; exact rfl
    have HSb : Hid (∀ W, Calls Tryz.prog 145 #[.string (bs b0), .int .i64 5] W fun e w' => e = .returned (.tuple #[.int .i64 0, .bool false]) ∧ w' = W) := fun W => by
      have := small_any b0 5 (by omega) hbl.out hdb W
      rw [if_neg (by omega)] at this; exact this
    clear ha hb hda hdb hMb3 HF HR0
    generalize ((decTo a a.length : Nat) : Int) = m at *
    go_enter Tryz.func110, Tryz.ntmps110
    go_wp2_with (first | (go_at_call 143; ((with_reducible refine (HC.out _).mono ?_); rintro e w' ⟨rfl, nd, rfl⟩)) | (go_at_call 144; ((with_reducible refine (HDa.out _).mono ?_); rintro e w' ⟨rfl, rfl⟩)) | (go_at_call 144; ((with_reducible refine (HDb.out _).mono ?_); rintro e w' ⟨rfl, rfl⟩)) | (go_at_call 145; ((with_reducible refine (HSa.out _).mono ?_); rintro e w' ⟨rfl, rfl⟩)) | (go_at_call 145; ((with_reducible refine (HSb.out _).mono ?_); rintro e w' ⟨rfl, rfl⟩)))
    go_ret2
    exact ⟨by rw [HR.out]; rfl, nd, rfl⟩
  have HSb : Hid (∀ W, Calls Tryz.prog 145 #[.string (bs b0), .int .i64 5] W fun e w' => e = .returned (.tuple #[.int .i64 (decTo b0 b0.length : Int), .bool true]) ∧ w' = W) := fun W => by
    have := small_any b0 5 (by omega) hbl.out hdb W
    rw [if_pos (by omega)] at this; exact this
  have hEb := decTo_bd b0 b0.length ((all_bAt b0 isDig).1 hdb)
  have hEb2 : 10 ^ b0.length ≤ 10 ^ 5 := Nat.pow_le_pow_right (by decide) (by omega)
  have hEb3 : decTo b0 b0.length < 100000 := Nat.lt_of_lt_of_le hEb hEb2
  clear hEb hEb2
  by_cases hM : 9007199254740992 ≤ decTo a a.length
  · have HR : Hid (R = (0, 1)) := by rw [HR0.out]; unfold parseNum; rw [HF.out, if_neg (by decide), if_pos (Or.inr (Or.inr (Or.inl hM)))]; exact rfl
    have hd : decide ((9007199254740992 : Int) ≤ ((decTo a a.length : Nat) : Int)) = true := decide_eq_true (by omega)
    clear ha hb hda hdb hMb3 hEb3 hM HF HR0
    generalize ((decTo a a.length : Nat) : Int) = m at *
    generalize ((decTo b0 b0.length : Nat) : Int) = p at *
    go_enter Tryz.func110, Tryz.ntmps110
    go_wp2_with (first | (go_at_call 143; ((with_reducible refine (HC.out _).mono ?_); rintro e w' ⟨rfl, nd, rfl⟩)) | (go_at_call 144; ((with_reducible refine (HDa.out _).mono ?_); rintro e w' ⟨rfl, rfl⟩)) | (go_at_call 144; ((with_reducible refine (HDb.out _).mono ?_); rintro e w' ⟨rfl, rfl⟩)) | (go_at_call 145; ((with_reducible refine (HSa.out _).mono ?_); rintro e w' ⟨rfl, rfl⟩)) | (go_at_call 145; ((with_reducible refine (HSb.out _).mono ?_); rintro e w' ⟨rfl, rfl⟩)))
    go_ret2
    exact ⟨by rw [HR.out]; rfl, nd, rfl⟩
  by_cases hod : decTo a a.length % 2 = 0
  · have HR : Hid (R = (0, 1)) := by rw [HR0.out]; unfold parseNum; rw [HF.out, if_neg (by decide), if_pos (Or.inr (Or.inr (Or.inr hod)))]; exact rfl
    have hd : decide ((9007199254740992 : Int) ≤ ((decTo a a.length : Nat) : Int)) = false := decide_eq_false (by omega)
    have hm0 : (0 : Int) ≤ ((decTo a a.length : Nat) : Int) := by omega
    have he : (((decTo a a.length : Nat) : Int) % 2 == 0) = true := by rw [beq_iff_eq]; omega
    clear ha hb hda hdb hMb3 hEb3 hM hod HF HR0
    generalize ((decTo a a.length : Nat) : Int) = m at *
    generalize ((decTo b0 b0.length : Nat) : Int) = p at *
    go_enter Tryz.func110, Tryz.ntmps110
    go_wp2_with (first | (go_at_call 143; ((with_reducible refine (HC.out _).mono ?_); rintro e w' ⟨rfl, nd, rfl⟩)) | (go_at_call 144; ((with_reducible refine (HDa.out _).mono ?_); rintro e w' ⟨rfl, rfl⟩)) | (go_at_call 144; ((with_reducible refine (HDb.out _).mono ?_); rintro e w' ⟨rfl, rfl⟩)) | (go_at_call 145; ((with_reducible refine (HSa.out _).mono ?_); rintro e w' ⟨rfl, rfl⟩)) | (go_at_call 145; ((with_reducible refine (HSb.out _).mono ?_); rintro e w' ⟨rfl, rfl⟩)))
    go_ret2
    exact ⟨by rw [HR.out]; rfl, nd, rfl⟩
  have HN : Hid (¬(16 < a.length ∨ 5 < b0.length ∨ 9007199254740992 ≤ decTo a a.length ∨ decTo a a.length % 2 = 0)) := by
    rintro (h | h | h | h)
    · exact ha h
    · exact hb h
    · exact hM h
    · exact hod h
  have hP : Hid (R = if ((decTo b0 b0.length : Int)) < -1074 ∨ 1024 < (Lib.bitLen (decTo a a.length) : Int) + ((decTo b0 b0.length : Int)) then (0, 1) else (ldW (decTo a a.length) ((decTo b0 b0.length : Int)) ^^^ topW, 0)) := by
    rw [HR0.out]; unfold parseNum; rw [HF.out, if_neg (by decide), if_neg HN.out]; exact rfl
  clear ha hb hda hdb HF HN HR0
  have HLn : Hid (∀ W, Calls Tryz.prog 140 #[.int .u64 (decTo a a.length : Int)] W fun e w' => e = .returned (.int .i64 (Lib.bitLen (decTo a a.length) : Int)) ∧ w' = W) := fun W => Tryz.bits_Len64 _ W (by omega) (by omega)
  have hd : decide ((9007199254740992 : Int) ≤ ((decTo a a.length : Nat) : Int)) = false := decide_eq_false (by omega)
  have hm0 : (0 : Int) ≤ ((decTo a a.length : Nat) : Int) := by omega
  have hm1 : ((decTo a a.length : Nat) : Int) ≤ 10000000000000000 := by omega
  have he : (((decTo a a.length : Nat) : Int) % 2 == 0) = false := beq_eq_false_iff_ne.2 (by omega)
  have hp0 : (0 : Int) ≤ ((decTo b0 b0.length : Nat) : Int) := by omega
  have hp1 : ((decTo b0 b0.length : Nat) : Int) ≤ 100000 := by omega
  have hbl2 := bitLen_log2 (decTo a a.length) (by omega) (by omega)
  have hlg := (Nat.log2_lt (show decTo a a.length ≠ 0 by omega) (k := 53)).2 (by omega)
  have hcv := conv_nat (decTo a a.length) (by omega) (by omega)
  have hq0 : (0 : Int) ≤ (Lib.bitLen (decTo a a.length) : Int) := by omega
  have hq1 : (Lib.bitLen (decTo a a.length) : Int) ≤ 64 := by omega
  by_cases hlo : ((decTo b0 b0.length : Int)) < -1074
  · have HR : Hid (R = (0, 1)) := by rw [hP.out, if_pos (Or.inl hlo)]; exact rfl
    have h1 : decide (((decTo b0 b0.length : Int)) < -1074) = true := decide_eq_true hlo
    clear hbl2 hcv hlg hlo hq0 hq1 HLn hP hM hod hMb3 hEb3
    generalize ((decTo a a.length : Nat) : Int) = m at *
    generalize ((decTo b0 b0.length : Nat) : Int) = p at *
    go_enter Tryz.func110, Tryz.ntmps110
    go_wp2_with (first | (go_at_call 143; ((with_reducible refine (HC.out _).mono ?_); rintro e w' ⟨rfl, nd, rfl⟩)) | (go_at_call 144; ((with_reducible refine (HDa.out _).mono ?_); rintro e w' ⟨rfl, rfl⟩)) | (go_at_call 144; ((with_reducible refine (HDb.out _).mono ?_); rintro e w' ⟨rfl, rfl⟩)) | (go_at_call 145; ((with_reducible refine (HSa.out _).mono ?_); rintro e w' ⟨rfl, rfl⟩)) | (go_at_call 145; ((with_reducible refine (HSb.out _).mono ?_); rintro e w' ⟨rfl, rfl⟩)))
    go_ret2
    exact ⟨by rw [HR.out]; rfl, nd, rfl⟩
  have h1 : decide (((decTo b0 b0.length : Int)) < -1074) = false := decide_eq_false hlo
  by_cases hhi : 1024 < (Lib.bitLen (decTo a a.length) : Int) + ((decTo b0 b0.length : Int))
  · have HR : Hid (R = (0, 1)) := by rw [hP.out, if_pos (Or.inr hhi)]; exact rfl
    have h2 : decide (1024 < (Lib.bitLen (decTo a a.length) : Int) + ((decTo b0 b0.length : Int))) = true := decide_eq_true hhi
    clear hbl2 hcv hlg hlo hhi hP hM hod hMb3 hEb3
    generalize (Lib.bitLen (decTo a a.length) : Int) = q at *
    generalize ((decTo a a.length : Nat) : Int) = m at *
    generalize ((decTo b0 b0.length : Nat) : Int) = p at *
    go_enter Tryz.func110, Tryz.ntmps110
    go_wp2_with (first | (go_at_call 143; ((with_reducible refine (HC.out _).mono ?_); rintro e w' ⟨rfl, nd, rfl⟩)) | (go_at_call 144; ((with_reducible refine (HDa.out _).mono ?_); rintro e w' ⟨rfl, rfl⟩)) | (go_at_call 144; ((with_reducible refine (HDb.out _).mono ?_); rintro e w' ⟨rfl, rfl⟩)) | (go_at_call 145; ((with_reducible refine (HSa.out _).mono ?_); rintro e w' ⟨rfl, rfl⟩)) | (go_at_call 145; ((with_reducible refine (HSb.out _).mono ?_); rintro e w' ⟨rfl, rfl⟩)) | (go_at_call 140; ((with_reducible refine (HLn.out _).mono ?_); rintro e w' ⟨rfl, rfl⟩)))
    go_ret2
    exact ⟨by rw [HR.out]; rfl, nd, rfl⟩
  have h2 : decide (1024 < (Lib.bitLen (decTo a a.length) : Int) + ((decTo b0 b0.length : Int))) = false := decide_eq_false hhi
  have HI : Hid (InR (decTo a a.length) ((decTo b0 b0.length : Int))) := ⟨by omega, by omega, by omega, by omega⟩
  have HR : Hid (R = (ldW (decTo a a.length) ((decTo b0 b0.length : Int)) ^^^ topW, 0)) := by rw [hP.out, if_neg (by rintro (h | h); exact hlo h; exact hhi h)]; exact rfl
  have HLd : Hid (∀ W, Calls Tryz.prog 117 #[.float .f64 (fb (fOf (decTo a a.length))), .int .i64 ((decTo b0 b0.length : Int))] W fun v w' => v = .returned (.float .f64 (fb (ldW (decTo a a.length) ((decTo b0 b0.length : Int))))) ∧ w' = W) := fun W => Ldexp_fits _ _ HI.out W
  generalize ldW (decTo a a.length) ((decTo b0 b0.length : Int)) = X at *
  generalize fOf (decTo a a.length) = Y at *
  clear hbl2 hlg hP hlo hhi HI hM hod hMb3 hEb3
  generalize (Lib.bitLen (decTo a a.length) : Int) = q at *
  generalize ((decTo a a.length : Nat) : Int) = m at *
  generalize ((decTo b0 b0.length : Nat) : Int) = p at *
  go_enter Tryz.func110, Tryz.ntmps110
  go_wp2_with (first | (go_at_call 143; ((with_reducible refine (HC.out _).mono ?_); rintro e w' ⟨rfl, nd, rfl⟩)) | (go_at_call 144; ((with_reducible refine (HDa.out _).mono ?_); rintro e w' ⟨rfl, rfl⟩)) | (go_at_call 144; ((with_reducible refine (HDb.out _).mono ?_); rintro e w' ⟨rfl, rfl⟩)) | (go_at_call 145; ((with_reducible refine (HSa.out _).mono ?_); rintro e w' ⟨rfl, rfl⟩)) | (go_at_call 145; ((with_reducible refine (HSb.out _).mono ?_); rintro e w' ⟨rfl, rfl⟩)) | (go_at_call 140; ((with_reducible refine (HLn.out _).mono ?_); rintro e w' ⟨rfl, rfl⟩)) | (go_at_call 117; ((with_reducible refine (HLd.out _).mono ?_); rintro e w' ⟨rfl, rfl⟩)))
  go_ret2
  exact ⟨by rw [HR.out]; rfl, nd, rfl⟩
end Go.Proofs.YtalpbphfmelhhaaGreatDoor

/-! ### num.Parse of any text: the five words, and what is no number. -/
namespace Go.Proofs.YtalpbphfmelhhaaGreatDoor
set_option maxRecDepth 100000
open Go.RowKit Go.Shelf Go.Sort
attribute [local go_sem] bs_size bs_get bs_toList neg_run
/-- What Parse tells. -/
def Told (w : World) (r : UInt64 × Int) (e : Ending) (w' : World) : Prop := e = .returned (.tuple #[.float .f64 (fb r.1), .int .i64 r.2]) ∧ ∃ nd, w' = w.drewN nd
theorem of_nan (w : World) : Calls Tryz.prog 142 #[.int .u64 9221120237041090560] w fun e w' => e = .returned (.float .f64 (fb nanW)) ∧ w' = w := of_any nanW w
theorem ftop (w : World) : (callFunc 97 #[.int .u64 9223372036854775808]).run Tryz.prog w = .ok (.value (.float .f64 (fb topW))) w := frombits0 _ w
attribute [local go_sem] ftop

set_option maxRecDepth 100000 in
set_option maxHeartbeats 400000 in
theorem parse_nan (w : World) : Calls Tryz.prog 110 #[.string (bs [110, 97, 110])] w (Told w (nanW, 0)) := by
  go_enter Tryz.func110, Tryz.ntmps110
  go_wp2_with (go_at_call 142; ((with_reducible refine (of_nan _).mono ?_); rintro e w' ⟨rfl, rfl⟩))
  go_ret2
  exact ⟨rfl, 0, rfl⟩
set_option maxRecDepth 100000 in
set_option maxHeartbeats 400000 in
theorem parse_inf (w : World) : Calls Tryz.prog 110 #[.string (bs [105, 110, 102])] w (Told w (9218868437227405312, 0)) := by
  go_enter Tryz.func110, Tryz.ntmps110
  go_wp2_with (go_at_call 114; ((with_reducible refine (inf_pos _).mono ?_); rintro e w' ⟨rfl, rfl⟩))
  go_ret2
  exact ⟨rfl, 0, rfl⟩
set_option maxRecDepth 100000 in
set_option maxHeartbeats 400000 in
theorem parse_ninf (w : World) : Calls Tryz.prog 110 #[.string (bs [45, 105, 110, 102])] w (Told w (18442240474082181120, 0)) := by
  go_enter Tryz.func110, Tryz.ntmps110
  go_wp2_with (go_at_call 114; ((with_reducible refine (inf_neg _).mono ?_); rintro e w' ⟨rfl, rfl⟩))
  go_ret2
  exact ⟨rfl, 0, rfl⟩
set_option maxRecDepth 100000 in
set_option maxHeartbeats 400000 in
theorem parse_zero (w : World) : Calls Tryz.prog 110 #[.string (bs [48])] w (Told w (0, 0)) := by
  go_enter Tryz.func110, Tryz.ntmps110
  go_wp2_with fail
  go_ret2
  exact ⟨rfl, 0, rfl⟩
set_option maxRecDepth 100000 in
set_option maxHeartbeats 400000 in
theorem parse_nzero (w : World) : Calls Tryz.prog 110 #[.string (bs [45, 48])] w (Told w (topW, 0)) := by
  go_enter Tryz.func110, Tryz.ntmps110
  go_wp2_with fail
  go_ret2
  exact ⟨rfl, 0, rfl⟩
set_option maxRecDepth 100000 in
set_option maxHeartbeats 400000 in
theorem parse_empty (w : World) : Calls Tryz.prog 110 #[.string (bs [])] w (Told w (0, 4)) := by
  have HC : Hid (∀ W, Calls Tryz.prog 143 #[.string (bs [])] W fun e w' => e = .returned (.tuple #[.string (bs []), .string (bs []), .bool false]) ∧ ∃ nd, w' = W.drewN nd) := fun W => cut_any [] (by decide) W
  go_enter Tryz.func110, Tryz.ntmps110
  go_wp2_with (go_at_call 143; ((with_reducible refine (HC.out _).mono ?_); rintro e w' ⟨rfl, nd, rfl⟩))
  go_ret2
  exact ⟨rfl, nd, rfl⟩
set_option maxRecDepth 100000 in
set_option maxHeartbeats 400000 in
theorem parse_p_none (l : List UInt8) (w : World) (L1 : (l == [110, 97, 110]) = false) (L2 : (l == [105, 110, 102]) = false) (L3 : (l == [45, 105, 110, 102]) = false) (L4 : (l == [48]) = false) (L5 : (l == [45, 48]) = false)
    (hl0 : 0 < l.length) (hlE : l.isEmpty = false) (hsg : (((bAt l 0).toNat : Int) == 45) = false)
    (HC : Hid (∀ W, Calls Tryz.prog 143 #[.string (bs l)] W fun e w' => e = .returned (.tuple #[.string (bs []), .string (bs []), .bool false]) ∧ ∃ nd, w' = W.drewN nd)) :
    Calls Tryz.prog 110 #[.string (bs l)] w (Told w (0, 4)) := by
  go_enter Tryz.func110, Tryz.ntmps110
  go_wp2_with (go_at_call 143; ((with_reducible refine (HC.out _).mono ?_); rintro e w' ⟨rfl, nd, rfl⟩))
  go_ret2
  exact ⟨rfl, nd, rfl⟩
set_option maxRecDepth 100000 in
set_option maxHeartbeats 400000 in
theorem parse_n_none (l t : List UInt8) (w : World) (L1 : (l == [110, 97, 110]) = false) (L2 : (l == [105, 110, 102]) = false) (L3 : (l == [45, 105, 110, 102]) = false) (L4 : (l == [48]) = false) (L5 : (l == [45, 48]) = false)
    (hl0 : 0 < l.length) (hlE : l.isEmpty = false) (hsg : (((bAt l 0).toNat : Int) == 45) = true) (hsl : (bs l).extract 1 l.length = bs t)
    (HC : Hid (∀ W, Calls Tryz.prog 143 #[.string (bs t)] W fun e w' => e = .returned (.tuple #[.string (bs []), .string (bs []), .bool false]) ∧ ∃ nd, w' = W.drewN nd)) :
    Calls Tryz.prog 110 #[.string (bs l)] w (Told w (0, 4)) := by
  go_enter Tryz.func110, Tryz.ntmps110
  go_wp2_with (go_at_call 143; ((with_reducible refine (HC.out _).mono ?_); rintro e w' ⟨rfl, nd, rfl⟩))
  go_ret2
  exact ⟨rfl, nd, rfl⟩
end Go.Proofs.YtalpbphfmelhhaaGreatDoor

/-! ### num.Parse of any text: put together. -/
namespace Go.Proofs.YtalpbphfmelhhaaGreatDoor
set_option maxRecDepth 100000
open Go.RowKit Go.Shelf Go.Sort
theorem b45 (c : UInt8) : ((c.toNat : Int) == 45) = decide (c = 45) := by
  rw [Bool.eq_iff_iff]; simp; rw [← UInt8.toNat_inj, show (45 : UInt8).toNat = 45 from rfl]; omega
theorem negB_pos {l : List UInt8} {b : Bool} (h : 0 < l.length) (hs : decide (bAt l 0 = 45) = b) : negB l = b := by
  unfold negB; rw [hs]; cases l with
  | nil => cases h
  | cons _ _ => cases b <;> rfl
theorem parse_tailP (neg : Bool) (l t : List UInt8) (hl : t.length ≤ 4611686018427387904) (w : World)
    (hnone : Hid (∀ W, Calls Tryz.prog 143 #[.string (bs t)] W fun e w' => e = .returned (.tuple #[.string (bs []), .string (bs []), .bool false]) ∧ ∃ nd, w' = W.drewN nd) → Calls Tryz.prog 110 #[.string (bs l)] w (Told w (0, 4)))
    (hempty : ∀ a, Hid (∀ W, Calls Tryz.prog 143 #[.string (bs t)] W fun e w' => e = .returned (.tuple #[.string (bs a), .string (bs []), .bool true]) ∧ ∃ nd, w' = W.drewN nd) → Hid (a.length ≤ 4611686018427387904) → Calls Tryz.prog 110 #[.string (bs l)] w (Told w (parseNum neg a false [])))
    (hdown : ∀ a b0 b, Hid (∀ W, Calls Tryz.prog 143 #[.string (bs t)] W fun e w' => e = .returned (.tuple #[.string (bs a), .string (bs b0), .bool true]) ∧ ∃ nd, w' = W.drewN nd) → (b0.isEmpty = false) → (0 < b0.length) → ((((bAt b0 0).toNat : Int) == 45) = true) → ((bs b0).extract 1 b0.length = bs b) → Hid (a.length ≤ 4611686018427387904) → Hid (b.length ≤ 4611686018427387904) → Calls Tryz.prog 110 #[.string (bs l)] w (Told w (parseNum neg a true b)))
    (hplain : ∀ a b0, Hid (∀ W, Calls Tryz.prog 143 #[.string (bs t)] W fun e w' => e = .returned (.tuple #[.string (bs a), .string (bs b0), .bool true]) ∧ ∃ nd, w' = W.drewN nd) → (b0.isEmpty = false) → (0 < b0.length) → ((((bAt b0 0).toNat : Int) == 45) = false) → Hid (a.length ≤ 4611686018427387904) → Hid (b0.length ≤ 4611686018427387904) → Calls Tryz.prog 110 #[.string (bs l)] w (Told w (parseNum neg a false b0))) :
    Calls Tryz.prog 110 #[.string (bs l)] w (Told w (parseTail neg t)) := by
  unfold parseTail
  have hc := fun W => cut_any t hl W
  by_cases hp : pAt t < t.length
  · rw [if_pos hp]
    simp only [if_pos hp] at hc
    have ha : (t.take (pAt t)).length ≤ 4611686018427387904 := by rw [List.length_take]; omega
    have hb : (t.drop (pAt t + 1)).length ≤ 4611686018427387904 := by rw [List.length_drop]; omega
    generalize t.take (pAt t) = a at *
    generalize t.drop (pAt t + 1) = b0 at *
    cases b0 with
    | nil => exact hempty a hc ha
    | cons c r =>
      cases hd : decide (bAt (c :: r) 0 = 45) with
      | true =>
        have hn : negB (c :: r) = true := negB_pos (Nat.succ_pos _) hd
        have hu : unsgn (c :: r) = r := by unfold unsgn; rw [hn]; rfl
        rw [hn, hu]
        exact hdown a (c :: r) r hc rfl (Nat.succ_pos _) (by rw [b45]; exact hd) (bs_drop (c :: r) 1) ha (by simp at hb; show _ ≤ _; omega)
      | false =>
        have hn : negB (c :: r) = false := negB_pos (Nat.succ_pos _) hd
        have hu : unsgn (c :: r) = c :: r := by unfold unsgn; rw [hn]; rfl
        rw [hn, hu]
        exact hplain a (c :: r) hc rfl (Nat.succ_pos _) (by rw [b45]; exact hd) ha hb
  · rw [if_neg hp]
    simp only [if_neg hp] at hc
    exact hnone hc
theorem parse_any (l : List UInt8) (hl : l.length ≤ 4611686018427387904) (w : World) : Calls Tryz.prog 110 #[.string (bs l)] w (Told w (parseOf l)) := by
  unfold parseOf
  by_cases h1 : l = [110, 97, 110]
  · rw [if_pos h1, h1]; exact parse_nan w
  rw [if_neg h1]
  by_cases h2 : l = [105, 110, 102]
  · rw [if_pos h2, h2]; exact parse_inf w
  rw [if_neg h2]
  by_cases h3 : l = [45, 105, 110, 102]
  · rw [if_pos h3, h3]; exact parse_ninf w
  rw [if_neg h3]
  by_cases h4 : l = [48]
  · rw [if_pos h4, h4]; exact parse_zero w
  rw [if_neg h4]
  by_cases h5 : l = [45, 48]
  · rw [if_pos h5, h5]; exact parse_nzero w
  rw [if_neg h5]
  have L1 := beq_eq_false_iff_ne.2 h1
  have L2 := beq_eq_false_iff_ne.2 h2
  have L3 := beq_eq_false_iff_ne.2 h3
  have L4 := beq_eq_false_iff_ne.2 h4
  have L5 := beq_eq_false_iff_ne.2 h5
  clear h1 h2 h3 h4 h5
  cases l with
  | nil => exact parse_empty w
  | cons c r =>
    generalize hq : c :: r = l at *
    have hl0 : 0 < l.length := by rw [← hq]; simp
    have hlE : l.isEmpty = false := by rw [← hq]; rfl
    cases hd : decide (bAt l 0 = 45) with
    | true =>
      have hn : negB l = true := negB_pos hl0 hd
      have hu : unsgn l = r := by unfold unsgn; rw [hn, ← hq]; rfl
      have hsg : (((bAt l 0).toNat : Int) == 45) = true := by rw [b45]; exact hd
      have hsl : (bs l).extract 1 l.length = bs r := by rw [bs_drop l 1, ← hq]; rfl
      rw [hn, hu]
      refine parse_tailP true l r (by rw [← hq] at hl; simp at hl; omega) w ?_ ?_ ?_ ?_
      · exact fun HC => parse_n_none l r w L1 L2 L3 L4 L5 hl0 hlE hsg hsl HC
      · exact fun a HC ha => parse_n_empty l r a w L1 L2 L3 L4 L5 hl0 hlE hsg hsl HC ha
      · exact fun a b0 b HC e1 e2 e3 e4 ha hb => parse_n_down l r a b0 b w L1 L2 L3 L4 L5 hl0 hlE hsg hsl HC e1 e2 e3 e4 ha hb
      · exact fun a b0 HC e1 e2 e3 ha hb => parse_n_plain l r a b0 w L1 L2 L3 L4 L5 hl0 hlE hsg hsl HC e1 e2 e3 ha hb
    | false =>
      have hn : negB l = false := negB_pos hl0 hd
      have hu : unsgn l = l := by unfold unsgn; rw [hn]; rfl
      have hsg : (((bAt l 0).toNat : Int) == 45) = false := by rw [b45]; exact hd
      rw [hn, hu]
      refine parse_tailP false l l hl w ?_ ?_ ?_ ?_
      · exact fun HC => parse_p_none l w L1 L2 L3 L4 L5 hl0 hlE hsg HC
      · exact fun a HC ha => parse_p_empty l a w L1 L2 L3 L4 L5 hl0 hlE hsg HC ha
      · exact fun a b0 b HC e1 e2 e3 e4 ha hb => parse_p_down l a b0 b w L1 L2 L3 L4 L5 hl0 hlE hsg HC e1 e2 e3 e4 ha hb
      · exact fun a b0 HC e1 e2 e3 ha hb => parse_p_plain l a b0 w L1 L2 L3 L4 L5 hl0 hlE hsg HC e1 e2 e3 ha hb
end Go.Proofs.YtalpbphfmelhhaaGreatDoor
