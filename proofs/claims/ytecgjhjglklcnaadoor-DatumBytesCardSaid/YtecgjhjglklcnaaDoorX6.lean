/-
  The walks of the reference's writings.
-/
import Derived.Test.YtecgjhjglklcnaaDoorX5
namespace Go.Proofs.YtecgjhjglklcnaaDoor
set_option maxRecDepth 100000
open Go.RowKit Go.Shelf Go.Sort
attribute [local go_sem] bs_size bs_get bs_toList frombits tobits run_store_float
theorem n64_shr7 (x : UInt64) : n64 x / (128 : Int) = n64 (x >>> 7) := by
  unfold n64; rw [UInt64.toNat_shiftRight, show (7 : UInt64).toNat % 64 = 7 from rfl, Nat.shiftRight_eq_div_pow]; omega
theorem n64_shr8 (x : UInt64) : n64 x / (256 : Int) = n64 (x >>> 8) := by
  unfold n64; rw [UInt64.toNat_shiftRight, show (8 : UInt64).toNat % 64 = 8 from rfl, Nat.shiftRight_eq_div_pow]; omega
theorem n64_lo8 (x : UInt64) : n64 x % (256 : Int) = n8 x.toUInt8 := by
  unfold n64 n8; rw [UInt64.toNat_toUInt8]; omega
theorem n64_lo7 (x : UInt64) : n64 x % (128 : Int) + 128 = n8 (x.toUInt8 ||| 128) := by
  unfold n64 n8
  rw [UInt8.toNat_or, UInt64.toNat_toUInt8, show (128 : UInt8).toNat = 2 ^ 7 * 1 from rfl, show (2 : Nat) ^ 8 = 256 from rfl]
  have e : ∀ a : Fin 256, a.val % 128 + 128 = a.val ||| 2 ^ 7 * 1 := by decide +kernel
  have := e ⟨x.toNat % 256, by omega⟩
  simp only at this
  omega
theorem wr8_in (n : Int) (h0 : 0 ≤ n) (h1 : n ≤ 255) : IntKind.u8.wrap n = n := wrap8 n h0 h1
set_option maxHeartbeats 2000000 in
theorem rInt_core (n : Int) (U X : UInt64) (hX : IntKind.u64.wrap n = n64 X) (hU : U = if n < 0 then ~~~(X <<< 1) else X <<< 1) (w : World) :
    Calls Tryd.prog 73 #[.int .i64 n] w fun e w' => ∃ v, e = .returned v ∧ Own8 w' w.heap.size 5 v (encU U.toNat) ∧ Below w.heap.size w w' := by
  have hs1 : Op.shift .shl .u64 (n64 X) .u64 1 = pure (.int .u64 (n64 (X <<< 1))) := sh64_shl X .u64 1 (by decide) (by decide)
  have hs2 := un64_not (X <<< 1)
  have HE : Hid ((encU U.toNat).length ≤ 10) := encU_len64 _ U.toNat_lt
  by_cases hn : n < 0
  case' pos => rw [if_pos hn] at hU
  case' neg => rw [if_neg hn] at hU
  all_goals
    simp only [← hU] at hs2 hs1
    clear hU
    go_enter Tryd.func73, Tryd.ntmps73
    go_wp2_with fail
    go_loopw [3, 4] (fun u o wr => ∃ (x : UInt64) (cur : List UInt8), u = .int .u64 (n64 x) ∧ Own8 wr w.heap.size 5 o cur ∧ Hid (cur ++ encU x.toNat = encU U.toNat) ∧ cur.length ≤ 10 ∧ Below w.heap.size w wr) (fun u _ _ => (intOf u).toNat)
    case atStart => exact ⟨U, [], rfl, Own8.nil _ _ _, rfl, by simp, Below.refl _ _⟩
    case round =>
      obtain ⟨x, cur, rfl, hown, HQ, hcl, hbel⟩ := hrel
      have hbl := hbel.size
      by_cases hx : x.toNat < 128
      · have hd : decide (128 ≤ n64 x) = false := decide_eq_false (by unfold n64; omega)
        have q1 := n64_to8 x
        have HQ2 : Hid (cur ++ [x.toUInt8] = encU U.toNat) := by rw [← HQ.out, enc_lo hx]; exact rfl
        clear hx
        go_wp2_with (at_builtin; refine wpList_app S8 rfl (.tmp 23) (.tmp 26) rfl w.heap.size rfl (hown.alloc _) rfl (Rd.one _ _ _) (by simp [Value.oneCell']) (by omega) (by simp [maxLen]; omega) (by simp; omega) ?_)
        intro v2 w2 hown' hb2 _
        have HO : Hid (Own8 w2 w.heap.size 5 v2 (encU U.toNat)) := by rw [← HQ2.out]; exact Own8.mk hown' (by rw [List.length_append]; rfl) (by rw [B8_append]; rfl)
        clear hown hown'
        go_wp2
        go_ret
        exact ⟨_, rfl, HO.out, (hbel.alloc hbl _).trans hb2⟩
      · have hd : decide (128 ≤ n64 x) = true := decide_eq_true (by unfold n64; omega)
        have hnn := n64_nn x
        have hnl := n64_le x
        have r1 : IntKind.u8.wrap (n64 x % 128) = n64 x % 128 := wr8_in _ (by omega) (by omega)
        have r2 : IntKind.u8.wrap (n64 x % 128 + 128) = n8 (x.toUInt8 ||| 128) := by rw [wr8_in _ (by omega) (by omega)]; exact n64_lo7 x
        have r3 := n64_lo7 x
        have r4 := n64_shr7 x
        have HQ2 : Hid ((cur ++ [x.toUInt8 ||| 128]) ++ encU (x >>> 7).toNat = encU U.toNat) := by rw [← HQ.out, enc_hi hx, List.append_assoc]; exact rfl
        have hlen : cur.length + 1 ≤ 10 := by have h1 := congrArg List.length HQ2.out; have h2 := HE.out; simp only [List.length_append, List.length_cons, List.length_nil] at h1; omega
        have HM : Hid ((n64 (x >>> 7)).toNat < (n64 x).toNat) := by
          have : (x >>> 7).toNat = x.toNat / 128 := by rw [UInt64.toNat_shiftRight, show (7 : UInt64).toNat % 64 = 7 from rfl, Nat.shiftRight_eq_div_pow]
          show (n64 (x >>> 7)).toNat < (n64 x).toNat
          unfold n64; omega
        clear hx
        go_wp2_with (at_builtin; refine wpList_app S8 rfl (.tmp 14) (.tmp 19) rfl w.heap.size rfl (hown.alloc _) rfl (Rd.one _ _ _) (by simp [Value.oneCell']) (by omega) (by simp [maxLen]; omega) (by simp; omega) ?_)
        intro v2 w2 hown' hb2 _
        have HO : Hid (Own8 w2 w.heap.size 5 v2 (cur ++ [x.toUInt8 ||| 128])) := Own8.mk hown' (by rw [List.length_append]; rfl) (by rw [B8_append]; rfl)
        clear hown hown'
        go_wp2
        go_roundw
        case rel => exact ⟨x >>> 7, _, by first | rfl | rw [r4], HO.out, HQ2, by rw [List.length_append]; simp; omega, (hbel.alloc hbl _).trans hb2⟩
        case measure => simp only [intOf]; first | exact HM.out | (rw [r4]; exact HM.out)
theorem rInt_any (n : Int) (h0 : -9223372036854775808 ≤ n) (h1 : n ≤ 9223372036854775807) (w : World) :
    Calls Tryd.prog 73 #[.int .i64 n] w fun e w' => ∃ v, e = .returned v ∧ Own8 w' w.heap.size 5 v (intB n) ∧ Below w.heap.size w w' := by
  obtain ⟨X, hX, hz⟩ := wInt_u h0 h1
  have := rInt_core n _ X hX rfl w
  rw [hz] at this; exact this
set_option maxHeartbeats 2000000 in
theorem rFloat_any (y : UInt64) (w : World) :
    Calls Tryd.prog 74 #[.float .f64 (fb y)] w fun e w' => ∃ v, e = .returned v ∧ Own8 w' w.heap.size 5 v (le8 8 (canon y)) ∧ Below w.heap.size w w' := by
  obtain ⟨U, hU⟩ : ∃ U, canon y = U := ⟨_, rfl⟩
  have HB : Hid (∀ W, Calls Tryd.prog 77 #[.float .f64 (fb y)] W fun e w' => e = .returned (.int .u64 (n64 U)) ∧ w' = W) := fun W => by rw [← hU]; exact refBits_any y W
  rw [hU]
  clear hU
  go_enter Tryd.func74, Tryd.ntmps74
  go_wp2_with (go_at_call 77; ((with_reducible refine (HB.out _).mono ?_); rintro e w' ⟨rfl, rfl⟩))
  obtain ⟨w0, rfl⟩ : ∃ x : World, x = w' := ⟨_, rfl⟩
  go_loopw [3, 4, 5] (fun u o i wr => ∃ (k : Nat) (x : UInt64) (cur : List UInt8), k ≤ 8 ∧ i = .int .i64 k ∧ u = .int .u64 (n64 x) ∧ Own8 wr w0.heap.size 5 o cur ∧ Hid (cur ++ le8 (8 - k) x = le8 8 U) ∧ cur.length ≤ k ∧ Below w0.heap.size w0 wr) (fun _ _ i _ => 8 - (intOf i).toNat)
  case atStart => exact ⟨0, U, [], by omega, rfl, rfl, Own8.nil _ _ _, rfl, by simp, Below.refl _ _⟩
  case round =>
    obtain ⟨k, x, cur, hk, rfl, rfl, hown, HQ, hcl, hbel⟩ := hrel
    have hbl := hbel.size
    by_cases hlt : k < 8
    · have hnn := n64_nn x
      have hnl := n64_le x
      have r3 := n64_lo8 x
      have r4 := n64_shr8 x
      have r1 : IntKind.u8.wrap (n8 x.toUInt8) = n8 x.toUInt8 := wr8_id _
      have HQ2 : Hid ((cur ++ [x.toUInt8]) ++ le8 (8 - (k + 1)) (x >>> 8) = le8 8 U) := by
        rw [← HQ.out, show 8 - k = (8 - (k + 1)) + 1 by omega, List.append_assoc]; exact rfl
      go_wp2_with (at_builtin; refine wpList_app S8 rfl (.tmp 12) (.tmp 16) rfl w0.heap.size rfl (hown.alloc _) rfl (Rd.one _ _ _) (by simp [Value.oneCell']) (by omega) (by simp [maxLen]; omega) (by simp; omega) ?_)
      intro v2 w2 hown' hb2 _
      have HO : Hid (Own8 w2 w0.heap.size 5 v2 (cur ++ [x.toUInt8])) := Own8.mk hown' (by rw [List.length_append]; rfl) (by rw [B8_append]; rfl)
      clear hown hown'
      go_wp2
      go_roundw
      case rel => exact ⟨k + 1, x >>> 8, _, by omega, by go_num, by first | rfl | rw [r4], HO.out, HQ2, by rw [List.length_append]; simp; omega, (hbel.alloc hbl _).trans hb2⟩
      case measure => simp [intOf]; omega
    · have hk8 : k = 8 := by omega
      subst hk8
      have HO : Hid (Own8 wr w0.heap.size 5 u4 (le8 8 U)) := by
        rw [← HQ.out]
        show Own8 wr w0.heap.size 5 _ (cur ++ le8 0 x)
        simpa [le8] using hown
      clear hown
      go_wp2
      go_ret
      exact ⟨_, rfl, HO.out, hbel⟩
set_option maxHeartbeats 2000000 in
theorem rText_any (m : List UInt8) (hm : m.length ≤ 100000000) (w : World) :
    Calls Tryd.prog 75 #[.string (bs m)] w fun e w' => ∃ v, e = .returned v ∧ Own8 w' w.heap.size 5 v (intB m.length ++ m) ∧ Below w.heap.size w w' := by
  have hsz : (bs m).size = m.length := bs_size m
  have HB : Hid (∀ W, Calls Tryd.prog 73 #[.int .i64 m.length] W fun e w' => ∃ v, e = .returned v ∧ Own8 w' W.heap.size 5 v (intB m.length) ∧ Below W.heap.size W w') := fun W => rInt_any _ (by omega) (by omega) W
  have HZ := encU_len64 _ (zz_lt (n := m.length) (by omega) (by omega))
  change (intB m.length).length ≤ 10 at HZ
  go_enter Tryd.func75, Tryd.ntmps75
  go_wp2_with (first | (go_at_call 73; ((with_reducible refine (HB.out _).mono ?_); rintro e w1 ⟨v1, rfl, hown, hbel⟩)) | (at_builtin; refine wpList_appS S8 Tryd.underlying9 rfl (.tmp 5) (.tmp 6) rfl w.heap.size rfl hown rfl (by omega) hbel.size ?_))
  intro v2 w2 hown' hg
  have HO := Lib.hid hown'
  have hb2 := (Below.refl w.heap.size w1).grown hg hbel.size (fun k hk => (World.ownsRow.lt hown k hk).1)
  clear hown hown' hg
  go_wp2
  go_ret
  exact ⟨_, rfl, HO.out, hbel.trans hb2⟩
end Go.Proofs.YtecgjhjglklcnaaDoor
