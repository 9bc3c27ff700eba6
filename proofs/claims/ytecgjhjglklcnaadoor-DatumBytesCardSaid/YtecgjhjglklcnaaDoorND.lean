/-
  Ldexp; the texts' parts: cut, digits, small, and the reference's digits and number.
  The texts' parts: small, cut, and the reference's digits and number.
  The texts' parts: cut, and the reference's digits and number.
  The texts' parts: cut.
  What Parse tells, in plain words.
-/
import Derived.Test.YtecgjhjglklcnaaDoorNC
/-! ### Ldexp; the texts' parts: cut, digits, small, and the reference's digits and number. -/
namespace Go.Proofs.YtecgjhjglklcnaaDoor
set_option maxRecDepth 100000
open Go.RowKit Go.Shelf Go.Sort

set_option maxHeartbeats 400000 in
theorem Ldexp_any (x : UInt64) (e : Int) (he : -1000000 ≤ e ∧ e ≤ 1000000) (w : World) :
    Calls Tryd.prog 84 #[.float .f64 (fb x), .int .i64 e] w fun v w' => ∃ (r : UInt64) (nd : Nat), v = .returned (.float .f64 (fb r)) ∧ w' = w.drewN nd := by
  have HE := Lib.hid he; clear he
  go_enter Tryd.func84, Tryd.ntmps84
  go_wp2_with (go_at_call 101; refine (ldexp_any _ _ HE.out _).mono ?_; rintro v w' ⟨r, nd, rfl, rfl⟩)
  go_ret
  exact ⟨r, nd, rfl, rfl⟩

set_option maxHeartbeats 400000 in
theorem Ldexp_fits (m : Nat) (e : Int) (h : InR m e) (w : World) :
    Calls Tryd.prog 84 #[.float .f64 (fb (fOf m)), .int .i64 e] w fun v w' => v = .returned (.float .f64 (fb (ldW m e))) ∧ w' = w := by
  go_enter Tryd.func84, Tryd.ntmps84
  go_wp2_with (go_at_call 101; refine (ldexp_fits _ _ h _).mono ?_; rintro v w' ⟨rfl, rfl⟩)
  go_ret
  exact ⟨rfl, rfl⟩

/-! ### Texts -/
def isDig (c : UInt8) : Bool := decide (48 ≤ c ∧ c ≤ 57)
/-- A number as it is written. -/
def digB (l : List UInt8) : Bool := !(l.isEmpty || (l.head? == some 48 && decide (1 < l.length))) && l.all isDig
/-- The number that digits write. -/
def decNum (l : List UInt8) : Nat := l.foldl (fun n c => n * 10 + (c.toNat - 48)) 0

/-- The byte at a place. -/
def bAt (l : List UInt8) (k : Nat) : UInt8 := l.getD k 0
theorem bs_get (l : List UInt8) (k : Nat) (h : k < (bs l).size) : (bs l)[k] = bAt l k := by
  have hk : k < l.length := by rwa [bs_size] at h
  show (bs l).data[k] = _
  simp [bs, bAt, hk]
theorem bAt_mem (l : List UInt8) (k : Nat) (h : k < l.length) : bAt l k ∈ l := by simp [bAt, h]
theorem mem_bAt (l : List UInt8) (c : UInt8) (h : c ∈ l) : ∃ k, k < l.length ∧ bAt l k = c := by
  obtain ⟨k, hk, e⟩ := List.mem_iff_getElem.1 h
  exact ⟨k, hk, by simp [bAt, hk, e]⟩
theorem all_bAt (l : List UInt8) (p : UInt8 → Bool) : l.all p = true ↔ ∀ k, k < l.length → p (bAt l k) = true := by
  rw [List.all_eq_true]
  constructor
  · intro h k hk; exact h _ (bAt_mem l k hk)
  · intro h c hc
    obtain ⟨k, hk, rfl⟩ := mem_bAt l c hc
    exact h k hk
theorem dig_tests (c : UInt8) : (decide ((c.toNat : Int) < 48) = true ∧ isDig c = false) ∨ (decide ((c.toNat : Int) < 48) = false ∧ decide (57 < (c.toNat : Int)) = true ∧ isDig c = false) ∨ (decide ((c.toNat : Int) < 48) = false ∧ decide (57 < (c.toNat : Int)) = false ∧ isDig c = true) := by
  unfold isDig
  have e1 : (48 ≤ c ∧ c ≤ 57) ↔ (48 ≤ c.toNat ∧ c.toNat ≤ 57) := by
    rw [UInt8.le_iff_toNat_le, UInt8.le_iff_toNat_le]; exact Iff.rfl
  simp only [e1, decide_eq_true_eq, decide_eq_false_iff_not]
  omega
section
attribute [local go_sem] bs_size bs_get bs_toList
set_option maxHeartbeats 1000000 in
theorem digits_any (l : List UInt8) (hl : l.length ≤ 4611686018427387904) (w : World) :
    Calls Tryd.prog 81 #[.string (bs l)] w fun e w' => e = .returned (.bool (digB l)) ∧ w' = w := by
  by_cases h0 : l = []
  · subst h0
    go_enter Tryd.func81, Tryd.ntmps81
    go_wp2
    go_ret
    exact ⟨rfl, rfl⟩
  · obtain ⟨n, hn⟩ : ∃ n, l.length = n := ⟨_, rfl⟩
    have hn0 : 0 < n := by rw [← hn]; exact List.length_pos_iff.2 h0
    have hE : l.isEmpty = false := by simpa using h0
    have hH : l.head? = some (bAt l 0) := by
      cases l with
      | nil => exact absurd rfl h0
      | cons a t => rfl
    have HD : Hid (digB l = (!(decide (bAt l 0 = 48) && decide (1 < n)) && l.all isDig)) := by
      unfold Hid digB
      rw [hE, hH, hn, Bool.false_or]; rfl
    have HA := Lib.hid (all_bAt l isDig)
    rw [hn] at hl HA
    clear hH
    have hz : (((bAt l 0).toNat : Int) == 48) = decide (bAt l 0 = 48) := by
      rw [Bool.eq_iff_iff]; simp; rw [← UInt8.toNat_inj, show (48 : UInt8).toNat = 48 from rfl]; omega
    by_cases hb : (decide (bAt l 0 = 48) && decide (1 < n)) = true
    · have HR : Hid (digB l = false) := by rw [HD.out, hb]; rfl
      obtain ⟨b1, b2⟩ := Bool.and_eq_true_iff.1 hb
      rw [b1] at hz
      have b2' : decide (1 < (n : Int)) = true := by simp at b2 ⊢; omega
      clear b1 hb h0
      go_enter Tryd.func81, Tryd.ntmps81
      go_wp2
      go_ret
      exact ⟨by rw [HR.out]; rfl, rfl⟩
    · have HR : Hid (digB l = l.all isDig) := by rw [HD.out, Bool.eq_false_iff.2 hb]; exact Bool.true_and _
      cases b1 : decide (bAt l 0 = 48) with
      | false =>
        rw [b1] at hz
        clear b1 hb h0
        go_enter Tryd.func81, Tryd.ntmps81
        go_wp2_with fail
        go_loopw [3, 18] (fun _ i wr => ∃ k : Nat, i = .int .i64 k ∧ k ≤ n ∧ (∀ j, j < k → isDig (bAt l j) = true) ∧ wr = w) (fun _ i _ => n - (intOf i).toNat)
        case atStart => exact ⟨0, rfl, Nat.zero_le _, fun j hj => absurd hj (Nat.not_lt_zero _), rfl⟩
        case round =>
          obtain ⟨k, rfl, hk, hd, rfl⟩ := hrel
          by_cases hlt : k < n
          · have Hd := Lib.hid hd; clear hd
            have hkl : k < l.length := by rw [hn]; exact hlt
            have hc := dig_tests (bAt l k)
            have hkk : Hid (isDig (bAt l k) = true → ∀ j, j < k + 1 → isDig (bAt l j) = true) := fun h j hj => by
              rcases Nat.lt_or_ge j k with h' | h'
              · exact Hd.out j h'
              · rw [show j = k by omega]; exact h
            have hbad : Hid (isDig (bAt l k) = false → l.all isDig = false) := fun h => by
              cases ha : l.all isDig with
              | false => rfl
              | true => have := HA.out.1 ha k hlt; rw [h] at this; cases this
            obtain ⟨c, hcc⟩ : ∃ c, bAt l k = c := ⟨_, rfl⟩
            rw [hcc] at hc hkk hbad
            rcases hc with ⟨t1, hv⟩ | ⟨t1, t2, hv⟩ | ⟨t1, t2, hv⟩
            · have Hv := Lib.hid (hbad.out hv)
              clear hv
              go_wp2
              go_ret
              exact ⟨by rw [HR.out, Hv.out]; rfl, rfl⟩
            · have Hv := Lib.hid (hbad.out hv)
              clear hv
              go_wp2
              go_ret
              exact ⟨by rw [HR.out, Hv.out]; rfl, rfl⟩
            · have Hv := Lib.hid (hkk.out hv)
              clear hv
              go_wp2
              go_roundw
              case rel => exact ⟨k + 1, by go_num, by omega, Hv.out, trivial⟩
              case measure => simp [intOf]; omega
          · have Hv : Hid (l.all isDig = true) := HA.out.2 (fun j hj => hd j (by omega))
            clear hd
            go_wp2
            go_ret
            exact ⟨by rw [HR.out, Hv.out]; rfl, rfl⟩
      | true =>
        have b2 : decide (1 < (n : Int)) = false := by
          rw [b1, Bool.true_and] at hb; simp at hb ⊢; omega
        rw [b1] at hz
        clear b1 hb h0
        go_enter Tryd.func81, Tryd.ntmps81
        go_wp2_with fail
        go_loopw [3, 18] (fun _ i wr => ∃ k : Nat, i = .int .i64 k ∧ k ≤ n ∧ (∀ j, j < k → isDig (bAt l j) = true) ∧ wr = w) (fun _ i _ => n - (intOf i).toNat)
        case atStart => exact ⟨0, rfl, Nat.zero_le _, fun j hj => absurd hj (Nat.not_lt_zero _), rfl⟩
        case round =>
          obtain ⟨k, rfl, hk, hd, rfl⟩ := hrel
          by_cases hlt : k < n
          · have Hd := Lib.hid hd; clear hd
            have hkl : k < l.length := by rw [hn]; exact hlt
            have hc := dig_tests (bAt l k)
            have hkk : Hid (isDig (bAt l k) = true → ∀ j, j < k + 1 → isDig (bAt l j) = true) := fun h j hj => by
              rcases Nat.lt_or_ge j k with h' | h'
              · exact Hd.out j h'
              · rw [show j = k by omega]; exact h
            have hbad : Hid (isDig (bAt l k) = false → l.all isDig = false) := fun h => by
              cases ha : l.all isDig with
              | false => rfl
              | true => have := HA.out.1 ha k hlt; rw [h] at this; cases this
            obtain ⟨c, hcc⟩ : ∃ c, bAt l k = c := ⟨_, rfl⟩
            rw [hcc] at hc hkk hbad
            rcases hc with ⟨t1, hv⟩ | ⟨t1, t2, hv⟩ | ⟨t1, t2, hv⟩
            · have Hv := Lib.hid (hbad.out hv)
              clear hv
              go_wp2
              go_ret
              exact ⟨by rw [HR.out, Hv.out]; rfl, rfl⟩
            · have Hv := Lib.hid (hbad.out hv)
              clear hv
              go_wp2
              go_ret
              exact ⟨by rw [HR.out, Hv.out]; rfl, rfl⟩
            · have Hv := Lib.hid (hkk.out hv)
              clear hv
              go_wp2
              go_roundw
              case rel => exact ⟨k + 1, by go_num, by omega, Hv.out, trivial⟩
              case measure => simp [intOf]; omega
          · have Hv : Hid (l.all isDig = true) := HA.out.2 (fun j hj => hd j (by omega))
            clear hd
            go_wp2
            go_ret
            exact ⟨by rw [HR.out, Hv.out]; rfl, rfl⟩
end
end Go.Proofs.YtecgjhjglklcnaaDoor

/-! ### The texts' parts: small, cut, and the reference's digits and number. -/
namespace Go.Proofs.YtecgjhjglklcnaaDoor
set_option maxRecDepth 100000
open Go.RowKit Go.Shelf Go.Sort
/-- The number that the first k digits write. -/
def decTo (l : List UInt8) : Nat → Nat
  | 0 => 0
  | k + 1 => decTo l k * 10 + ((bAt l k).toNat - 48)
theorem decTo_bd (l : List UInt8) (k : Nat) (h : ∀ j, j < k → isDig (bAt l j) = true) : decTo l k < 10 ^ k := by
  induction k with
  | zero => simp [decTo]
  | succ k ih =>
    have := ih (fun j hj => h j (by omega))
    have hd := h k (by omega)
    have hc : (bAt l k).toNat - 48 ≤ 9 := by
      unfold isDig at hd
      have := of_decide_eq_true hd
      rw [UInt8.le_iff_toNat_le, UInt8.le_iff_toNat_le] at this
      have e1 : (57 : UInt8).toNat = 57 := rfl
      omega
    show decTo l k * 10 + _ < _
    rw [Nat.pow_succ]; omega
theorem dig_nat {c : UInt8} (h : isDig c = true) : 48 ≤ c.toNat ∧ c.toNat ≤ 57 := by
  unfold isDig at h
  have := of_decide_eq_true h
  rw [UInt8.le_iff_toNat_le, UInt8.le_iff_toNat_le] at this
  exact this
attribute [local go_sem] bs_size bs_get bs_toList

set_option maxHeartbeats 1000000 in
theorem small_any (l : List UInt8) (most : Nat) (hm : most ≤ 17) (hl : l.length ≤ 4611686018427387904) (hd : l.all isDig = true) (w : World) :
    Calls Tryd.prog 82 #[.string (bs l), .int .i64 (most : Int)] w fun e w' => e = .returned (.tuple (if l.length ≤ most then #[.int .i64 (decTo l l.length : Int), .bool true] else #[.int .i64 0, .bool false])) ∧ w' = w := by
  obtain ⟨n, hn⟩ : ∃ n, l.length = n := ⟨_, rfl⟩
  have hA := (all_bAt l isDig).1 hd
  rw [hn] at hl hA ⊢
  clear hd
  by_cases hle : n ≤ most
  · rw [if_pos hle]
    have HA := Lib.hid hA; clear hA
    have q1 : decide ((most : Int) < (n : Int)) = false := by simp; omega
    go_enter Tryd.func82, Tryd.ntmps82
    go_wp2_with fail
    go_loopw [6, 7, 14] (fun a _ i wr => ∃ k : Nat, i = .int .i64 k ∧ k ≤ n ∧ a = .int .i64 (decTo l k : Int) ∧ wr = w) (fun _ _ i _ => n - (intOf i).toNat)
    case atStart => exact ⟨0, rfl, Nat.zero_le _, rfl, rfl⟩
    case round =>
      obtain ⟨k, rfl, hk, rfl, rfl⟩ := hrel
      by_cases hlt : k < n
      · have hkl : k < l.length := by rw [hn]; exact hlt
        have hb := decTo_bd l k (fun j hj => HA.out j (by omega))
        have hb17 : 10 ^ k ≤ 10 ^ 17 := Nat.pow_le_pow_right (by decide) (by omega)
        have hb3 : decTo l k < 100000000000000000 := Nat.lt_of_lt_of_le hb hb17
        have HS : Hid (decTo l (k + 1) = decTo l k * 10 + ((bAt l k).toNat - 48)) := rfl
        have hc := dig_nat (HA.out k hlt)
        clear hb hb17
        generalize decTo l k = a at *
        obtain ⟨d, hd⟩ : ∃ d : Nat, (bAt l k).toNat = 48 + d := ⟨(bAt l k).toNat - 48, by omega⟩
        have hd9 : d ≤ 9 := by omega
        have HS2 : Hid (decTo l (k + 1) = a * 10 + d) := by rw [HS.out, hd]; show _ = _; omega
        clear hc
        go_wp2_with fail
        go_roundw
        case rel => exact ⟨k + 1, by go_num, by omega, by rw [HS2.out]; congr 1 <;> omega, trivial⟩
        case measure => simp [intOf]; omega
      · have hkn : k = n := by omega
        subst hkn
        go_wp2
        go_ret2
        exact ⟨rfl, rfl⟩
  · rw [if_neg hle]
    have q1 : decide ((most : Int) < (n : Int)) = true := by simp; omega
    clear hA
    go_enter Tryd.func82, Tryd.ntmps82
    go_wp2
    go_ret2
    exact ⟨rfl, rfl⟩
end Go.Proofs.YtecgjhjglklcnaaDoor

/-! ### The texts' parts: cut, and the reference's digits and number. -/
namespace Go.Proofs.YtecgjhjglklcnaaDoor
set_option maxRecDepth 100000
open Go.RowKit Go.Shelf Go.Sort
attribute [local go_sem] bs_size bs_get bs_toList

set_option maxHeartbeats 1000000 in
theorem number_any (l : List UInt8) (hl : l.length ≤ 17) (hd : l.all isDig = true) (w : World) :
    Calls Tryd.prog 87 #[.string (bs l)] w fun e w' => e = .returned (.int .i64 (decTo l l.length : Int)) ∧ w' = w := by
  obtain ⟨n, hn⟩ : ∃ n, l.length = n := ⟨_, rfl⟩
  have hA := (all_bAt l isDig).1 hd
  rw [hn] at hl hA ⊢
  clear hd
  have HA := Lib.hid hA; clear hA
  go_enter Tryd.func87, Tryd.ntmps87
  go_wp2_with fail
  go_loopw [3, 4] (fun a i wr => ∃ k : Nat, i = .int .i64 k ∧ k ≤ n ∧ a = .int .i64 (decTo l k : Int) ∧ wr = w) (fun _ i _ => n - (intOf i).toNat)
  case atStart => exact ⟨0, rfl, Nat.zero_le _, rfl, rfl⟩
  case round =>
    obtain ⟨k, rfl, hk, rfl, rfl⟩ := hrel
    by_cases hlt : k < n
    · have hkl : k < l.length := by rw [hn]; exact hlt
      have hb := decTo_bd l k (fun j hj => HA.out j (by omega))
      have hb17 : 10 ^ k ≤ 10 ^ 17 := Nat.pow_le_pow_right (by decide) (by omega)
      have hb3 : decTo l k < 100000000000000000 := Nat.lt_of_lt_of_le hb hb17
      have HS : Hid (decTo l (k + 1) = decTo l k * 10 + ((bAt l k).toNat - 48)) := rfl
      have hc := dig_nat (HA.out k hlt)
      clear hb hb17
      generalize decTo l k = a at *
      obtain ⟨d, hd⟩ : ∃ d : Nat, (bAt l k).toNat = 48 + d := ⟨(bAt l k).toNat - 48, by omega⟩
      have hd9 : d ≤ 9 := by omega
      have HS2 : Hid (decTo l (k + 1) = a * 10 + d) := by rw [HS.out, hd]; show _ = _; omega
      clear hc
      go_wp2_with fail
      go_roundw
      case rel => exact ⟨k + 1, by go_num, by omega, by rw [HS2.out]; congr 1 <;> omega, trivial⟩
      case measure => simp [intOf]; omega
    · have hkn : k = n := by omega
      subst hkn
      go_wp2
      go_ret
      exact ⟨rfl, rfl⟩

/-! ### The digits ahead -/
def leadN (l : List UInt8) : Nat := (l.takeWhile isDig).length
theorem leadN_le (l : List UInt8) : leadN l ≤ l.length := by
  unfold leadN; exact (List.takeWhile_prefix _).length_le
theorem leadN_spec (l : List UInt8) : (∀ j, j < leadN l → isDig (bAt l j) = true) ∧ (leadN l < l.length → isDig (bAt l (leadN l)) = false) := by
  induction l with
  | nil => exact ⟨fun j hj => absurd hj (Nat.not_lt_zero _), fun h => absurd h (Nat.not_lt_zero _)⟩
  | cons c t ih =>
    cases hc : isDig c with
    | false =>
      have e : leadN (c :: t) = 0 := by unfold leadN; rw [List.takeWhile_cons, hc]; rfl
      rw [e]
      exact ⟨fun j hj => absurd hj (Nat.not_lt_zero _), fun _ => hc⟩
    | true =>
      have e : leadN (c :: t) = leadN t + 1 := by unfold leadN; rw [List.takeWhile_cons, hc]; rfl
      rw [e]
      refine ⟨fun j hj => ?_, fun h => ?_⟩
      · cases j with
        | zero => exact hc
        | succ j => exact ih.1 j (by omega)
      · exact ih.2 (by simpa using h)
def leadOk (l : List UInt8) : Bool := decide (0 < leadN l) && (!(decide (bAt l 0 = 48)) || decide (leadN l = 1))

set_option maxHeartbeats 1000000 in
theorem refDigits_any (l : List UInt8) (hl : l.length ≤ 4611686018427387904) (w : World) :
    Calls Tryd.prog 86 #[.string (bs l)] w fun e w' => e = .returned (.tuple #[.int .i64 (leadN l : Int), .bool (leadOk l)]) ∧ w' = w := by
  obtain ⟨n, hn⟩ : ∃ n, l.length = n := ⟨_, rfl⟩
  obtain ⟨q, hq⟩ : ∃ q, leadN l = q := ⟨_, rfl⟩
  have hqn := leadN_le l
  obtain ⟨H1, H2⟩ := leadN_spec l
  have HO : Hid (leadOk l = (decide (0 < q) && (!(decide (bAt l 0 = 48)) || decide (q = 1)))) := by unfold Hid leadOk; rw [hq]
  rw [hn] at hl hqn H2
  rw [hq] at hqn H1 H2 ⊢
  have H1 := Lib.hid H1
  have H2 := Lib.hid H2
  clear hq
  go_enter Tryd.func86, Tryd.ntmps86
  go_wp2_with fail
  go_loopw [4] (fun i wr => ∃ k : Nat, i = .int .i64 k ∧ k ≤ q ∧ wr = w) (fun i _ => n - (intOf i).toNat)
  case atStart => exact ⟨0, rfl, Nat.zero_le _, rfl⟩
  case round =>
    obtain ⟨k, rfl, hk, rfl⟩ := hrel
    by_cases hlt : k < q
    · have hkl : k < l.length := by rw [hn]; omega
      have hkn : k < n := by omega
      have hc := dig_nat (H1.out k hlt)
      go_wp2_with fail
      go_roundw
      case rel => exact ⟨k + 1, by go_num, by omega, trivial⟩
      case measure => simp [intOf]; omega
    · have hkq : k = q := by omega
      subst hkq
      have hfin : True := trivial
      clear hfin
      have hz : (((bAt l 0).toNat : Int) == 48) = decide (bAt l 0 = 48) := by
        rw [Bool.eq_iff_iff]; simp; rw [← UInt8.toNat_inj, show (48 : UInt8).toNat = 48 from rfl]; omega
      have hz' : (((bAt l 0).toNat : Int) != 48) = !decide (bAt l 0 = 48) := by rw [bne, hz]
      have hq1 : ((k : Int) == 1) = decide (k = 1) := by rw [Bool.eq_iff_iff]; simp; omega
      have hq0 : decide ((0 : Int) < (k : Int)) = decide (0 < k) := by rw [Bool.eq_iff_iff]; simp
      clear hq0
      by_cases hlt : k < n
      · have hkl : k < l.length := by rw [hn]; exact hlt
        have hc := H2.out hlt
        rcases dig_tests (bAt l k) with ⟨t1, hv⟩ | ⟨t1, t2, hv⟩ | ⟨t1, t2, hv⟩
        · have t1' : decide ((48 : Int) ≤ ((bAt l k).toNat : Int)) = false := by simp at t1 ⊢; omega
          clear t1 hv hc
          by_cases h0 : 0 < k
          · have hn0 : 0 < n := by omega
            have g0 : decide ((0 : Int) < (k : Int)) = true := by simpa using h0
            cases b1 : decide (bAt l 0 = 48) with
            | false =>
              have HR : Hid (leadOk l = true) := by rw [HO.out, b1, decide_eq_true h0]; exact rfl
              rw [b1] at hz hz'; clear b1
              go_wp2
              go_ret2
              exact ⟨by rw [HR.out]; rfl, rfl⟩
            | true =>
              cases b2 : decide (k = 1) with
              | false =>
                have HR : Hid (leadOk l = false) := by rw [HO.out, b1, b2, decide_eq_true h0]; exact rfl
                rw [b1] at hz hz'; rw [b2] at hq1; clear b1 b2
                go_wp2
                go_ret2
                exact ⟨by rw [HR.out]; rfl, rfl⟩
              | true =>
                have HR : Hid (leadOk l = true) := by rw [HO.out, b1, b2, decide_eq_true h0]; exact rfl
                rw [b1] at hz hz'; rw [b2] at hq1; clear b1 b2
                go_wp2
                go_ret2
                exact ⟨by rw [HR.out]; rfl, rfl⟩
          · have g0 : decide ((0 : Int) < (k : Int)) = false := by simp; omega
            have HR : Hid (leadOk l = false) := by rw [HO.out, decide_eq_false h0]; exact rfl
            go_wp2
            go_ret2
            exact ⟨by rw [HR.out]; rfl, rfl⟩
        · have t1' : decide ((48 : Int) ≤ ((bAt l k).toNat : Int)) = true := by simp at t1 ⊢; omega
          have t2' : decide (((bAt l k).toNat : Int) ≤ 57) = false := by simp at t2 ⊢; omega
          clear t1 t2 hv hc
          by_cases h0 : 0 < k
          · have hn0 : 0 < n := by omega
            have g0 : decide ((0 : Int) < (k : Int)) = true := by simpa using h0
            cases b1 : decide (bAt l 0 = 48) with
            | false =>
              have HR : Hid (leadOk l = true) := by rw [HO.out, b1, decide_eq_true h0]; exact rfl
              rw [b1] at hz hz'; clear b1
              go_wp2
              go_ret2
              exact ⟨by rw [HR.out]; rfl, rfl⟩
            | true =>
              cases b2 : decide (k = 1) with
              | false =>
                have HR : Hid (leadOk l = false) := by rw [HO.out, b1, b2, decide_eq_true h0]; exact rfl
                rw [b1] at hz hz'; rw [b2] at hq1; clear b1 b2
                go_wp2
                go_ret2
                exact ⟨by rw [HR.out]; rfl, rfl⟩
              | true =>
                have HR : Hid (leadOk l = true) := by rw [HO.out, b1, b2, decide_eq_true h0]; exact rfl
                rw [b1] at hz hz'; rw [b2] at hq1; clear b1 b2
                go_wp2
                go_ret2
                exact ⟨by rw [HR.out]; rfl, rfl⟩
          · have g0 : decide ((0 : Int) < (k : Int)) = false := by simp; omega
            have HR : Hid (leadOk l = false) := by rw [HO.out, decide_eq_false h0]; exact rfl
            go_wp2
            go_ret2
            exact ⟨by rw [HR.out]; rfl, rfl⟩
        · rw [hv] at hc; cases hc
      · have hkn : decide ((k : Int) < (n : Int)) = false := by simp; omega
        by_cases h0 : 0 < k
        · have hn0 : 0 < n := by omega
          have g0 : decide ((0 : Int) < (k : Int)) = true := by simpa using h0
          cases b1 : decide (bAt l 0 = 48) with
          | false =>
            have HR : Hid (leadOk l = true) := by rw [HO.out, b1, decide_eq_true h0]; exact rfl
            rw [b1] at hz hz'; clear b1
            go_wp2
            go_ret2
            exact ⟨by rw [HR.out]; rfl, rfl⟩
          | true =>
            cases b2 : decide (k = 1) with
            | false =>
              have HR : Hid (leadOk l = false) := by rw [HO.out, b1, b2, decide_eq_true h0]; exact rfl
              rw [b1] at hz hz'; rw [b2] at hq1; clear b1 b2
              go_wp2
              go_ret2
              exact ⟨by rw [HR.out]; rfl, rfl⟩
            | true =>
              have HR : Hid (leadOk l = true) := by rw [HO.out, b1, b2, decide_eq_true h0]; exact rfl
              rw [b1] at hz hz'; rw [b2] at hq1; clear b1 b2
              go_wp2
              go_ret2
              exact ⟨by rw [HR.out]; rfl, rfl⟩
        · have g0 : decide ((0 : Int) < (k : Int)) = false := by simp; omega
          have HR : Hid (leadOk l = false) := by rw [HO.out, decide_eq_false h0]; exact rfl
          go_wp2
          go_ret2
          exact ⟨by rw [HR.out]; rfl, rfl⟩
end Go.Proofs.YtecgjhjglklcnaaDoor

/-! ### The texts' parts: cut. -/
namespace Go.Proofs.YtecgjhjglklcnaaDoor
set_option maxRecDepth 100000
open Go.RowKit Go.Shelf Go.Sort
attribute [local go_sem] bs_size bs_get bs_toList

/-- Where the first p stands. -/
def pAt (l : List UInt8) : Nat := (l.takeWhile (fun c => c != 112)).length
theorem pAt_le (l : List UInt8) : pAt l ≤ l.length := by
  unfold pAt; exact (List.takeWhile_prefix _).length_le
theorem pAt_spec (l : List UInt8) : (∀ j, j < pAt l → bAt l j ≠ 112) ∧ (pAt l < l.length → bAt l (pAt l) = 112) := by
  induction l with
  | nil => exact ⟨fun j hj => absurd hj (Nat.not_lt_zero _), fun h => absurd h (Nat.not_lt_zero _)⟩
  | cons c t ih =>
    by_cases hc : c = 112
    · have e : pAt (c :: t) = 0 := by unfold pAt; rw [List.takeWhile_cons, hc]; rfl
      rw [e]
      exact ⟨fun j hj => absurd hj (Nat.not_lt_zero _), fun _ => hc⟩
    · have hb : (c != 112) = true := by simpa using hc
      have e : pAt (c :: t) = pAt t + 1 := by unfold pAt; rw [List.takeWhile_cons, hb]; rfl
      rw [e]
      refine ⟨fun j hj => ?_, fun h => ?_⟩
      · cases j with
        | zero => exact hc
        | succ j => exact ih.1 j (by omega)
      · exact ih.2 (by simpa using h)

theorem bs_take (l : List UInt8) (k : Nat) : (bs l).extract 0 k = bs (l.take k) := by
  apply ByteArray.ext
  simp [bs, ByteArray.data_extract]
theorem bs_drop (l : List UInt8) (k : Nat) : (bs l).extract k l.length = bs (l.drop k) := by
  apply ByteArray.ext
  simp [bs, ByteArray.data_extract, List.take_of_length_le]
set_option maxHeartbeats 1000000 in
theorem cut_any (l : List UInt8) (hl : l.length ≤ 4611686018427387904) (w : World) :
    Calls Tryd.prog 80 #[.string (bs l)] w fun e w' => e = .returned (.tuple (if pAt l < l.length then #[.string (bs (l.take (pAt l))), .string (bs (l.drop (pAt l + 1))), .bool true] else #[.string (bs []), .string (bs []), .bool false])) ∧ ∃ nd, w' = w.drewN nd := by
  obtain ⟨n, hn⟩ : ∃ n, l.length = n := ⟨_, rfl⟩
  obtain ⟨q, hq⟩ : ∃ q, pAt l = q := ⟨_, rfl⟩
  have hqn := pAt_le l
  obtain ⟨H1, H2⟩ := pAt_spec l
  rw [hn] at hl hqn H2
  rw [hq] at hqn H1 H2
  obtain ⟨R, HR⟩ : ∃ R : Array Value, Hid (R = (if pAt l < l.length then #[.string (bs (l.take (pAt l))), .string (bs (l.drop (pAt l + 1))), .bool true] else #[.string (bs []), .string (bs []), .bool false])) := ⟨_, rfl⟩
  rw [← HR.out]
  rw [hq, hn] at HR
  have H1 := Lib.hid H1
  have H2 := Lib.hid H2
  clear hq
  go_enter Tryd.func80, Tryd.ntmps80
  go_wp2_with fail
  go_loopw [5, 8] (fun _ i wr => ∃ k : Nat, i = .int .i64 k ∧ k ≤ q ∧ wr = w) (fun _ i _ => n - (intOf i).toNat)
  case atStart => exact ⟨0, rfl, Nat.zero_le _, rfl⟩
  case round =>
    obtain ⟨k, rfl, hk, rfl⟩ := hrel
    by_cases hlt : k < q
    · have hkl : k < l.length := by rw [hn]; omega
      have hkn : k < n := by omega
      have hc := H1.out k hlt
      have hz : (((bAt l k).toNat : Int) == 112) = false := beq_eq_false_iff_ne.2 (fun h => hc (UInt8.toNat_inj.1 (by rw [show (112 : UInt8).toNat = 112 from rfl]; omega)))
      clear hc
      go_wp2_with fail
      go_roundw
      case rel => exact ⟨k + 1, by go_num, by omega, trivial⟩
      case measure => simp [intOf]; omega
    · have hkq : k = q := by omega
      subst hkq
      by_cases hlt : k < n
      · have HR : Hid (R = #[.string (bs (l.take k)), .string (bs (l.drop (k + 1))), .bool true]) := by rw [HR.out, if_pos hlt]; exact rfl
        have hkl : k < l.length := by rw [hn]; exact hlt
        have hz : (((bAt l k).toNat : Int) == 112) = true := by rw [H2.out hlt]; rfl
        go_wp2_with fail
        go_quiet (fail)
        go_wp2
        go_ret3
        refine ⟨?_, nq, rfl⟩
        have e1 : (bs l).extract 0 k = bs (l.take k) := bs_take l k
        have e2 : (bs l).extract (k + 1) n = bs (l.drop (k + 1)) := by rw [← hn]; exact bs_drop l (k + 1)
        rw [HR.out, ← e1, ← e2]; rfl
      · have HR : Hid (R = #[.string (bs []), .string (bs []), .bool false]) := by rw [HR.out, if_neg hlt]; exact rfl
        have hz : decide ((k : Int) < (n : Int)) = false := by simp; omega
        go_wp2
        go_ret3
        exact ⟨by rw [HR.out]; rfl, 0, rfl⟩
end Go.Proofs.YtecgjhjglklcnaaDoor

/-! ### What Parse tells, in plain words. -/
namespace Go.Proofs.YtecgjhjglklcnaaDoor
set_option maxRecDepth 100000
open Go.RowKit Go.Shelf Go.Sort

/-- Behind the sign of the place: the digits, the sign of the place, the place's digits. -/
def parseNum (neg : Bool) (a : List UInt8) (down : Bool) (b : List UInt8) : UInt64 × Int :=
  if !digB a || (a == [48]) || !digB b || (down && (b == [48])) then (0, 4)
  else if 16 < a.length ∨ 5 < b.length ∨ 9007199254740992 ≤ decTo a a.length ∨ decTo a a.length % 2 = 0 then (0, 1)
  else
    let e : Int := if down then -(decTo b b.length : Int) else (decTo b b.length : Int)
    if e < -1074 ∨ 1024 < (Lib.bitLen (decTo a a.length) : Int) + e then (0, 1)
    else (if neg then ldW (decTo a a.length) e ^^^ topW else ldW (decTo a a.length) e, 0)
def negB (l : List UInt8) : Bool := !l.isEmpty && decide (bAt l 0 = 45)
/-- Without the sign. -/
def unsgn (l : List UInt8) : List UInt8 := if negB l then l.drop 1 else l
def parseTail (neg : Bool) (t : List UInt8) : UInt64 × Int :=
  if pAt t < t.length then parseNum neg (t.take (pAt t)) (negB (t.drop (pAt t + 1))) (unsgn (t.drop (pAt t + 1))) else (0, 4)
def parseOf (l : List UInt8) : UInt64 × Int :=
  if l = [110, 97, 110] then (nanW, 0)
  else if l = [105, 110, 102] then (9218868437227405312, 0)
  else if l = [45, 105, 110, 102] then (18442240474082181120, 0)
  else if l = [48] then (0, 0)
  else if l = [45, 48] then (topW, 0)
  else parseTail (negB l) (unsgn l)
theorem neg_fb (x : UInt64) : Op.negFloat .f64 (fb x) = fb (x ^^^ topW) := by
  unfold fb; rw [UInt64.toNat_xor]; rfl
theorem bitLen_log2 (x : Nat) (h0 : x ≠ 0) (h : x < 2 ^ 64) : Lib.bitLen x = x.log2 + 1 := by
  have h1 := Lib.bitLen_shift x.log2 x (Nat.log2_self_le h0) h
  have h2 : x / 2 ^ x.log2 = 1 := by
    apply Nat.div_eq_of_lt_le
    · rw [Nat.one_mul]; exact Nat.log2_self_le h0
    · have := @Nat.lt_log2_self x
      rw [Nat.pow_succ] at this; omega
  rw [h1, h2]; show _ + 1 = _; rfl
theorem conv_nat (M : Nat) (h0 : M ≠ 0) (h : M < 9007199254740992) : floatOfInt .f64 (M : Int) = fb (fOf M) := by
  unfold fb fOf
  rw [(inR0 h0 h).ldW_nat]
  unfold floatOfInt ldN
  show Ieee.double.nearest (decide ((M : Int) < 0)) (M : Int).natAbs 0 = _
  rw [decide_eq_false (by omega)]; rfl
end Go.Proofs.YtecgjhjglklcnaaDoor
