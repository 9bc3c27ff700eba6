/-
  The walks of the small functions on bytes: plain, digit, the reference's digit and value.
  The walks of Quote and the reference's.
-/
import Derived.Test.YtalpbphfmelhhaaGreatDoorD4
/-! ### The walks of the small functions on bytes: plain, digit, the reference's digit and value. -/
namespace Go.Proofs.YtalpbphfmelhhaaGreatDoor
set_option maxRecDepth 100000
open Go.RowKit Go.Shelf Go.Sort
attribute [local go_sem] bs_size bs_get bs_toList
/-- Does a byte stand as it is? -/
def plainZ (n : Int) : Bool := decide (32 ≤ n) && decide (n ≤ 126) && !(n == 34) && !(n == 92)
set_option maxHeartbeats 400000 in
theorem plain_any (n : Int) (_h0 : 0 ≤ n) (_h1 : n ≤ 255) (w : World) : Calls Tryz.prog 93 #[.int .u8 n] w fun e w' => e = .returned (.bool (plainZ n)) ∧ w' = w := by
  have HV : Hid (plainZ n = (decide (32 ≤ n) && decide (n ≤ 126) && !(n == 34) && !(n == 92))) := rfl
  cases a1 : decide (32 ≤ n)
  case' true => cases a2 : decide (n ≤ 126)
  case' true.true => cases a3 : (n == 34)
  case' true.true.false => cases a4 : (n == 92)
  case' false => have HR : Hid (plainZ n = false) := by rw [HV.out, a1]; exact rfl
  case' true.false => have HR : Hid (plainZ n = false) := by rw [HV.out, a1, a2]; exact rfl
  case' true.true.true => have HR : Hid (plainZ n = false) := by rw [HV.out, a1, a2, a3]; exact rfl
  case' true.true.true => have b3 : (n != 34) = false := by rw [bne, a3]; rfl
  case' true.true.false.true => have HR : Hid (plainZ n = false) := by rw [HV.out, a1, a2, a3, a4]; exact rfl
  case' true.true.false.true => have b3 : (n != 34) = true := by rw [bne, a3]; rfl
  case' true.true.false.true => have b4 : (n != 92) = false := by rw [bne, a4]; rfl
  case' true.true.false.false => have HR : Hid (plainZ n = true) := by rw [HV.out, a1, a2, a3, a4]; exact rfl
  case' true.true.false.false => have b3 : (n != 34) = true := by rw [bne, a3]; rfl
  case' true.true.false.false => have b4 : (n != 92) = true := by rw [bne, a4]; rfl
  all_goals
    clear HV
    go_enter Tryz.func93, Tryz.ntmps93
    go_wp2
    go_ret
    exact ⟨by rw [HR.out]; rfl, rfl⟩
/-- What a digit of base sixteen is worth; -1: it is none. -/
def hexZ (n : Int) : Int := if 48 ≤ n ∧ n ≤ 57 then n - 48 else if 97 ≤ n ∧ n ≤ 102 then n - 87 else -1
set_option maxHeartbeats 400000 in
theorem digit_any (n : Int) (h0 : 0 ≤ n) (h1 : n ≤ 255) (w : World) : Calls Tryz.prog 112 #[.int .u8 n] w fun e w' => e = .returned (.int .i64 (hexZ n)) ∧ w' = w := by
  by_cases a : 48 ≤ n ∧ n ≤ 57
  · have HR : Hid (hexZ n = n - 48) := if_pos a
    obtain ⟨a1, a2⟩ := a
    go_enter Tryz.func112, Tryz.ntmps112
    go_wp2
    go_ret
    exact ⟨by rw [HR.out]; rfl, rfl⟩
  · by_cases b : 97 ≤ n ∧ n ≤ 102
    · have HR : Hid (hexZ n = n - 97 + 10) := by unfold hexZ; rw [if_neg a, if_pos b]; show _ = _; omega
      obtain ⟨b1, b2⟩ := b
      have a2 : decide (n ≤ 57) = false := decide_eq_false (by omega)
      clear a
      go_enter Tryz.func112, Tryz.ntmps112
      go_wp2
      go_ret
      exact ⟨by rw [HR.out]; rfl, rfl⟩
    · have HR : Hid (hexZ n = -1) := by unfold hexZ; rw [if_neg a, if_neg b]; exact rfl
      cases a1 : decide (48 ≤ n)
      · have b1 : decide (97 ≤ n) = false := decide_eq_false (by have := of_decide_eq_false a1; omega)
        clear a b
        go_enter Tryz.func112, Tryz.ntmps112
        go_wp2
        go_ret
        exact ⟨by rw [HR.out]; rfl, rfl⟩
      · have a2 : decide (n ≤ 57) = false := decide_eq_false (by have := of_decide_eq_true a1; omega)
        cases b1 : decide (97 ≤ n)
        · clear a b
          go_enter Tryz.func112, Tryz.ntmps112
          go_wp2
          go_ret
          exact ⟨by rw [HR.out]; rfl, rfl⟩
        · have b2 : decide (n ≤ 102) = false := decide_eq_false (by have := of_decide_eq_true b1; omega)
          clear a b
          go_enter Tryz.func112, Tryz.ntmps112
          go_wp2
          go_ret
          exact ⟨by rw [HR.out]; rfl, rfl⟩
/-- The reference: 16: it is none. -/
def hexR (n : Int) : Int := if hexZ n < 0 then 16 else hexZ n
set_option maxHeartbeats 400000 in
theorem refValue_any (n : Int) (h0 : 0 ≤ n) (h1 : n ≤ 255) (w : World) : Calls Tryz.prog 90 #[.int .u8 n] w fun e w' => e = .returned (.int .u8 (hexR n)) ∧ w' = w := by
  by_cases a : 48 ≤ n ∧ n ≤ 57
  · have HR : Hid (hexR n = n - 48) := by unfold hexR hexZ; rw [if_pos a, if_neg (by omega)]; exact rfl
    obtain ⟨a1, a2⟩ := a
    go_enter Tryz.func90, Tryz.ntmps90
    go_wp2
    go_ret
    exact ⟨by rw [HR.out]; rfl, rfl⟩
  · by_cases b : 97 ≤ n ∧ n ≤ 102
    · have HR : Hid (hexR n = n - 97 + 10) := by unfold hexR hexZ; rw [if_neg a, if_pos b, if_neg (by omega)]; show _ = _; omega
      obtain ⟨b1, b2⟩ := b
      have a2 : decide (n ≤ 57) = false := decide_eq_false (by omega)
      clear a
      go_enter Tryz.func90, Tryz.ntmps90
      go_wp2
      go_ret
      exact ⟨by rw [HR.out]; rfl, rfl⟩
    · have HR : Hid (hexR n = 16) := by unfold hexR hexZ; rw [if_neg a, if_neg b]; exact rfl
      cases a1 : decide (48 ≤ n)
      · have b1 : decide (97 ≤ n) = false := decide_eq_false (by have := of_decide_eq_false a1; omega)
        clear a b
        go_enter Tryz.func90, Tryz.ntmps90
        go_wp2
        go_ret
        exact ⟨by rw [HR.out]; rfl, rfl⟩
      · have a2 : decide (n ≤ 57) = false := decide_eq_false (by have := of_decide_eq_true a1; omega)
        cases b1 : decide (97 ≤ n)
        · clear a b
          go_enter Tryz.func90, Tryz.ntmps90
          go_wp2
          go_ret
          exact ⟨by rw [HR.out]; rfl, rfl⟩
        · have b2 : decide (n ≤ 102) = false := decide_eq_false (by have := of_decide_eq_true b1; omega)
          clear a b
          go_enter Tryz.func90, Tryz.ntmps90
          go_wp2
          go_ret
          exact ⟨by rw [HR.out]; rfl, rfl⟩
/-- The digit of a number below 16. -/
def hexD (n : Int) : Int := if n < 10 then 48 + n else 87 + n
set_option maxHeartbeats 400000 in
theorem refDigit_any (n : Int) (h0 : 0 ≤ n) (h1 : n ≤ 15) (w : World) : Calls Tryz.prog 95 #[.int .u8 n] w fun e w' => e = .returned (.int .u8 (hexD n)) ∧ w' = w := by
  by_cases a : n < 10
  · have HR : Hid (hexD n = 48 + n) := if_pos a
    go_enter Tryz.func95, Tryz.ntmps95
    go_wp2
    go_ret
    exact ⟨by rw [HR.out]; rfl, rfl⟩
  · have HR : Hid (hexD n = 97 + n - 10) := by unfold hexD; rw [if_neg a]; show _ = _; omega
    go_enter Tryz.func95, Tryz.ntmps95
    go_wp2
    go_ret
    exact ⟨by rw [HR.out]; rfl, rfl⟩
end Go.Proofs.YtalpbphfmelhhaaGreatDoor

/-! ### The walks of Quote and the reference's. -/
namespace Go.Proofs.YtalpbphfmelhhaaGreatDoor
set_option maxRecDepth 100000
open Go.RowKit Go.Shelf Go.Sort
attribute [local go_sem] bs_size bs_get bs_toList
theorem S8 : STy Tryz.prog 106 5 (.int .u8 0) 1 1 := ⟨Tryz.underlying106, ⟨_, rfl, by kernel_rfl, by kernel_rfl, by kernel_rfl⟩, rfl, by decide⟩
/-- The digit of a number below 16. -/
def hexC (k : Nat) : UInt8 := UInt8.ofNat (if k < 10 then 48 + k else 87 + k)
theorem hexC_int (k : Nat) (h : k < 16) : ((hexC k).toNat : Int) = hexD k := by
  unfold hexC hexD
  rw [UInt8.toNat_ofNat']
  split <;> split <;> omega
/-- A byte as it is quoted. -/
def quoteC (c : UInt8) : List UInt8 := if plainZ c.toNat then [c] else [92, hexC (c.toNat / 16), hexC (c.toNat % 16)]
def quoteTo (l : List UInt8) (k : Nat) : List UInt8 := 34 :: (l.take k).flatMap quoteC
def quoteOf (l : List UInt8) : List UInt8 := 34 :: l.flatMap quoteC ++ [34]
theorem quoteC_len (c : UInt8) : (quoteC c).length ≤ 3 := by unfold quoteC; split <;> simp
theorem flat_len (l : List UInt8) : (l.flatMap quoteC).length ≤ 3 * l.length := by
  induction l with
  | nil => simp
  | cons c t ih => have := quoteC_len c; rw [List.flatMap_cons, List.length_append, List.length_cons]; omega
theorem quoteTo_len (l : List UInt8) (k : Nat) : (quoteTo l k).length ≤ 3 * l.length + 1 := by
  have h1 := flat_len (l.take k)
  have h2 : (l.take k).length ≤ l.length := by rw [List.length_take]; omega
  unfold quoteTo; simp only [List.length_cons]; omega
theorem quoteTo_succ (l : List UInt8) (k : Nat) (h : k < l.length) : quoteTo l (k + 1) = quoteTo l k ++ quoteC (bAt l k) := by
  unfold quoteTo
  rw [B8_take_succ l k h, List.flatMap_append]
  simp [bAt]
theorem quoteTo_all (l : List UInt8) (k : Nat) (h : k = l.length) : quoteTo l k ++ [34] = quoteOf l := by
  subst h; unfold quoteTo quoteOf; simp
set_option maxHeartbeats 1000000 in
theorem refQuote_any (l : List UInt8) (hl : l.length ≤ 1000000) (w : World) :
    Calls Tryz.prog 63 #[.string (bs l)] w fun e w' => e = .returned (.string (bs (quoteOf l))) ∧ Below w.heap.size w w' := by
  obtain ⟨n, hn⟩ : ∃ n, l.length = n := ⟨_, rfl⟩
  rw [hn] at hl
  have HN := Lib.hid hn
  clear hn
  have hsz : (bs l).size = n := by rw [bs_size, HN.out]
  go_enter Tryz.func63, Tryz.ntmps63
  go_wp2_with fail
  go_loopw [3, 4] (fun v i wr => ∃ k : Nat, k ≤ n ∧ i = .int .i64 k ∧ Own8 wr w.heap.size 5 v (quoteTo l k) ∧ Below w.heap.size w wr) (fun _ i _ => n - (intOf i).toNat)
  case atStart => exact ⟨0, Nat.zero_le _, rfl, Own8.mk (l := [34]) (World.ownsRow_lit w #[.int .u8 34] 1 (Nat.le_refl _) (by decide) rfl) rfl rfl, (Below.refl _ _).alloc (Nat.le_refl _) _⟩
  case round =>
    obtain ⟨k, hk, rfl, hown, hbel⟩ := hrel
    have hbl := hbel.size
    by_cases hlt : k < n
    · have hkl : k < l.length := by rw [HN.out]; exact hlt
      have HQ : Hid (quoteTo l (k + 1) = quoteTo l k ++ quoteC (bAt l k)) := quoteTo_succ l k hkl
      have hql := quoteTo_len l k
      rw [HN.out] at hql
      obtain ⟨c, hc⟩ : ∃ c, bAt l k = c := ⟨_, rfl⟩
      have HP : Hid (plainZ (c.toNat : Int) = (decide (32 ≤ (c.toNat : Int)) && decide ((c.toNat : Int) ≤ 126) && !((c.toNat : Int) == 34) && !((c.toNat : Int) == 92))) := rfl
      have hcl : c.toNat ≤ 255 := by have := c.toNat_lt; omega
      rw [hc] at HQ
      have HC := Lib.hid hc
      clear hc
      cases hp : plainZ (c.toNat : Int) with
      | true =>
        have HQ2 : Hid (quoteTo l (k + 1) = quoteTo l k ++ [c]) := by rw [HQ.out]; unfold quoteC; rw [hp, if_pos rfl]; exact rfl
        have hpp : (decide (32 ≤ (c.toNat : Int)) && decide ((c.toNat : Int) ≤ 126) && !((c.toNat : Int) == 34) && !((c.toNat : Int) == 92)) = true := by rw [← HP.out]; exact hp
        rw [Bool.and_eq_true, Bool.and_eq_true, Bool.and_eq_true, Bool.not_eq_true', Bool.not_eq_true'] at hpp
        obtain ⟨⟨⟨p1, p2⟩, p3⟩, p4⟩ := hpp
        have p3' : ((c.toNat : Int) != 34) = true := by rw [bne, p3]; rfl
        have p4' : ((c.toNat : Int) != 92) = true := by rw [bne, p4]; rfl
        have hcc := HC.out
        clear hp HP HQ
        go_wp2_with (at_builtin; refine wpList_app S8 rfl (.tmp 30) (.tmp 32) rfl w.heap.size rfl (hown.alloc _) rfl (Rd.one _ _ _) ?c1 ?c2 ?c3 ?c4 ?_)
        case c1 => simp [Value.oneCell']
        case c2 => omega
        case c3 => simp [maxLen]; omega
        case c4 => simp; omega
        intro v' w1 hown' hb1 _
        clear hown
        go_wp2
        go_roundw
        case rel => exact ⟨k + 1, by omega, by go_num, Own8.mk hown' (by rw [HQ2.out, List.length_append]; rfl) (by rw [HQ2.out, B8_append]; rfl), (hbel.alloc hbl _).trans hb1⟩
        case measure => simp [intOf]; omega
      | false =>
        have HQ2 : Hid (quoteTo l (k + 1) = quoteTo l k ++ [92, hexC (c.toNat / 16), hexC (c.toNat % 16)]) := by rw [HQ.out]; unfold quoteC; rw [hp, if_neg (by decide)]; exact rfl
        have hpp : (decide (32 ≤ (c.toNat : Int)) && decide ((c.toNat : Int) ≤ 126) && !((c.toNat : Int) == 34) && !((c.toNat : Int) == 92)) = false := by rw [← HP.out]; exact hp
        have h16 : hexD ((c.toNat : Int) / 16) = ((hexC (c.toNat / 16)).toNat : Int) := by rw [hexC_int _ (by omega)]; rfl
        have h15 : hexD ((c.toNat : Int) % 16) = ((hexC (c.toNat % 16)).toNat : Int) := by rw [hexC_int _ (by omega)]; rfl
        have HD1 : Hid (∀ W, Calls Tryz.prog 95 #[.int .u8 ((c.toNat : Int) / 16)] W fun e w' => e = .returned (.int .u8 ((hexC (c.toNat / 16)).toNat : Int)) ∧ w' = W) := fun W => by rw [← h16]; exact refDigit_any _ (by omega) (by omega) W
        have HD2 : Hid (∀ W, Calls Tryz.prog 95 #[.int .u8 ((c.toNat : Int) % 16)] W fun e w' => e = .returned (.int .u8 ((hexC (c.toNat % 16)).toNat : Int)) ∧ w' = W) := fun W => by rw [← h15]; exact refDigit_any _ (by omega) (by omega) W
        have hcc := HC.out
        clear hp HP HQ h16 h15
        have hways : ∃ a1 a2 a3 a4 : Bool, decide (32 ≤ (c.toNat : Int)) = a1 ∧ decide ((c.toNat : Int) ≤ 126) = a2 ∧ ((c.toNat : Int) == 34) = a3 ∧ ((c.toNat : Int) == 92) = a4 := ⟨_, _, _, _, rfl, rfl, rfl, rfl⟩
        obtain ⟨a1, a2, a3, a4, p1, p2, p3, p4⟩ := hways
        rw [p1, p2, p3, p4] at hpp
        have p3' : ((c.toNat : Int) != 34) = !a3 := by rw [bne, p3]
        have p4' : ((c.toNat : Int) != 92) = !a4 := by rw [bne, p4]
        obtain ⟨d1, hd1⟩ : ∃ d, hexC (c.toNat / 16) = d := ⟨_, rfl⟩
        obtain ⟨d2, hd2⟩ : ∃ d, hexC (c.toNat % 16) = d := ⟨_, rfl⟩
        rw [hd1] at HQ2 HD1
        rw [hd2] at HQ2 HD2
        clear hd1 hd2
        cases a1
        case' true => cases a2
        case' true.true => cases a3
        case' true.true.false => cases a4
        case' true.true.false.false => exact absurd hpp (by decide)
        all_goals
          clear hpp
          go_wp2_with (first | (go_at_call 95; ((with_reducible refine (HD1.out _).mono ?_); rintro e w' ⟨rfl, rfl⟩)) | (go_at_call 95; ((with_reducible refine (HD2.out _).mono ?_); rintro e w' ⟨rfl, rfl⟩)) | (at_builtin; refine wpList_app S8 rfl (.tmp 34) (.tmp 41) rfl w.heap.size rfl (hown.alloc _) rfl (Rd.lit _ (B8 [92, d1, d2]) 3 rfl (by decide) _) (B8_one _) (by omega) (by simp [maxLen]; omega) (by simp; omega) ?_))
          intro v' w1 hown' hb1 _
          clear hown
          go_wp2
          go_roundw
          case rel => exact ⟨k + 1, by omega, by go_num, Own8.mk hown' (by rw [HQ2.out, List.length_append]; rfl) (by rw [HQ2.out, B8_append]), (hbel.alloc hbl _).trans hb1⟩
          case measure => simp [intOf]; omega
    · have hkn : k = n := by omega
      subst hkn
      have HQ : Hid (quoteTo l k ++ [34] = quoteOf l) := quoteTo_all l k HN.out.symm
      have hql := quoteTo_len l k
      rw [HN.out] at hql
      have hd : decide ((k : Int) < (k : Int)) = false := by simp
      clear hd
      go_wp2_with (at_builtin; refine wpList_app S8 rfl (.tmp 43) (.tmp 44) rfl w.heap.size rfl (hown.alloc _) rfl (Rd.one _ _ _) ?c5 ?c6 ?c7 ?c8 ?_)
      case c5 => simp [Value.oneCell']
      case c6 => omega
      case c7 => simp [maxLen]; omega
      case c8 => simp; omega
      intro v' w1 hown' hb1 _
      clear hown
      have hown2 : Own8 w1 w.heap.size 5 v' (quoteOf l) := Own8.mk hown' (by rw [← HQ.out, List.length_append]; rfl) (by rw [← HQ.out, B8_append]; rfl)
      obtain ⟨a, cap, rfl, hr⟩ := hown2.rd
      have hcv := run_toStr (P := Tryz.prog) hr 106 5 9 Tryz.underlying106 Tryz.underlying5 Tryz.underlying9
      clear hown' hown2
      go_wp2
      go_ret
      exact ⟨rfl, (hbel.alloc hbl _).trans hb1⟩
end Go.Proofs.YtalpbphfmelhhaaGreatDoor
