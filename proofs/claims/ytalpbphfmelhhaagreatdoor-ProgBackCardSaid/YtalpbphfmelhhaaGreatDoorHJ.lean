/-
  The document's run: small functions (raceref9.seenAt, truth, bit).
  The document's step of two values (raceref9.reckons). Written by a program (h26gen.py).
  The document's step of two values, whole (raceref9.reckons).
-/
import Derived.Test.YtalpbphfmelhhaaGreatDoorHI
/-! ### The document's run: small functions (raceref9.seenAt, truth, bit). -/
namespace Go.Proofs.YtalpbphfmelhhaaGreatDoor
open Go.RowKit Go.Maps Go.Sort
set_option maxRecDepth 100000
attribute [local go_sem] bs_size bs_get bs_toList frombits tobits run_store_float
set_option maxHeartbeats 2000000 in
theorem seenAt_any (a : Option Addr) (n cap : Nat) (l : List SnP) (k : List UInt8) (w : World) (h : RdS w a n cap l) :
    Calls Tryz.prog 48 #[.slice a n cap, .string (bs k)] w fun e w' => e = .returned (.int .i64 (idxF k l 0)) ∧ w' = w := by
  have H0 := Lib.hid h
  have hm : n ≤ 9223372036854775807 := h.rd.len
  have HN := Lib.hid h.rd.1
  clear h
  go_enter Tryz.func48, Tryz.ntmps48
  go_wp2_with fail
  go_loopw [5] (fun i wr => ∃ j : Nat, j ≤ n ∧ i = .int .i64 (j : Nat) ∧ Hid (idxF k l 0 = idxF k (l.drop j) j) ∧ wr = w) (fun i _ => n - (intOf i).toNat)
  case atStart => exact ⟨0, Nat.zero_le _, rfl, rfl, rfl⟩
  case round =>
    obtain ⟨j, hj, rfl, HI, rfl⟩ := hrel
    by_cases hlt : j < n
    · obtain ⟨s, hs⟩ : ∃ s, l[j]? = some s := ⟨_, List.getElem?_eq_getElem (by have := HN.out; omega)⟩
      obtain ⟨b, off, rfl, c0, _, _, _, _, _, _⟩ := H0.out.rd.at7 hs
      have HS := Lib.hid hs
      clear hs
      cases he : (s.key == k) with
      | true =>
        have HR : Hid (idxF k l 0 = (j : Nat)) := by show _ = _; rw [HI.out, idxF_step HS.out, he]; rfl
        go_wp2_with fail
        go_ret
        exact ⟨by rw [HR.out]; rfl, rfl⟩
      | false =>
        have HR : Hid (idxF k l 0 = idxF k (l.drop (j + 1)) (j + 1)) := by show _ = _; rw [HI.out, idxF_step HS.out, he]; rfl
        go_wp2_with fail
        go_roundw
        case rel => exact ⟨j + 1, by omega, by go_num, HR.out, trivial⟩
        case measure => simp [intOf]; omega
    · obtain rfl : j = n := by omega
      have HR : Hid (idxF k l 0 = -1) := by show _ = _; rw [HI.out, List.drop_of_length_le (by have := HN.out; omega)]; rfl
      go_wp2_with fail
      go_ret
      exact ⟨by rw [HR.out]; rfl, rfl⟩
set_option maxHeartbeats 1000000 in
theorem bit_any (b : Bool) (w : World) : Calls Tryz.prog 83 #[.bool b] w (fun e w' => e = .returned (VA (Vl.ofB b).k (Vl.ofB b).x (Vl.ofB b).s) ∧ Below w.heap.size w w') := by
  have H1 : Hid (∀ W, Calls Tryz.prog 85 #[.float .f64 4607182418800017408] W fun e w' => e = .returned (.agg #[.int .i64 (Vl.ofB true).k, .float .f64 (fb (Vl.ofB true).x), .string (bs (Vl.ofB true).s)]) ∧ Below W.heap.size W w') := fun W => cnumR 4607182418800017408 W
  have H2 : Hid (∀ W, Calls Tryz.prog 85 #[.float .f64 0] W fun e w' => e = .returned (.agg #[.int .i64 (Vl.ofB false).k, .float .f64 (fb (Vl.ofB false).x), .string (bs (Vl.ofB false).s)]) ∧ Below W.heap.size W w') := fun W => cnumR 0 W
  cases b with
  | true =>
    generalize Vl.ofB true = v at H1 ⊢
    go_enter Tryz.func83, Tryz.ntmps83
    go_wp2_with (go_at_call 85; ((with_reducible refine (H1.out _).mono ?_); rintro e w1 ⟨rfl, hb1⟩; obtain ⟨u0, u1, u2, p0, q0, p1, q1, p2, q2, HL, HB⟩ := retV hb1 v; clear hb1))
    refine bodyPost_ret (v := VA v.k v.x v.s) (by rw [results_cell_one' rfl]; simp [asAddr, Result.andThen]; exact HL.out) rfl ⟨rfl, HB.out⟩
  | false =>
    generalize Vl.ofB false = v at H2 ⊢
    go_enter Tryz.func83, Tryz.ntmps83
    go_wp2_with (go_at_call 85; ((with_reducible refine (H2.out _).mono ?_); rintro e w1 ⟨rfl, hb1⟩; obtain ⟨u0, u1, u2, p0, q0, p1, q1, p2, q2, HL, HB⟩ := retV hb1 v; clear hb1))
    refine bodyPost_ret (v := VA v.k v.x v.s) (by rw [results_cell_one' rfl]; simp [asAddr, Result.andThen]; exact HL.out) rfl ⟨rfl, HB.out⟩
set_option maxHeartbeats 1000000 in
theorem truth9_any (v : Vl) (w : World) : Calls Tryz.prog 50 #[.agg #[.int .i64 v.k, .float .f64 (fb v.x), .string (bs v.s)]] w (fun e w' => e = .returned (.bool (holdsB v)) ∧ Below w.heap.size w w') := by
  have H1 : Hid (∀ W, Calls Tryz.prog 82 #[.float .f64 (fb v.x)] W fun e w' => e = .returned (.int .i64 (classOf v.x)) ∧ w' = W) := fun W => refClass_any v.x W
  have HB : Hid (Below w.heap.size w (w.alloc (.cells #[.int .i64 v.k, .float .f64 (fb v.x), .string (bs v.s)] 48))) := (Below.refl _ _).alloc (Nat.le_refl _) _
  by_cases hk2 : v.k = 2
  · have hk : v.k ≠ 1 := by omega
    have hres : holdsB v = !v.s.isEmpty := by unfold holdsB; rw [if_neg hk, if_pos hk2]
    rw [hres]
    rw [hk2] at HB ⊢
    clear hres hk
    cases hs : v.s with
    | nil =>
      rw [hs] at HB
      go_enter Tryz.func50, Tryz.ntmps50
      go_wp2_with fail
      go_ret
      exact ⟨rfl, HB.out⟩
    | cons c r =>
      rw [hs] at HB
      go_enter Tryz.func50, Tryz.ntmps50
      go_wp2_with fail
      go_ret
      exact ⟨rfl, HB.out⟩
  · have g2 : (v.k == 2) = false := by simp [hk2]
    by_cases hk : v.k = 1
    · have hres : holdsB v = (decide (classOf v.x ≠ 0) && decide (classOf v.x ≠ 4) && decide (classOf v.x ≠ 5)) := by unfold holdsB; rw [if_pos hk]
      rw [hres]
      rw [hk] at HB ⊢
      clear hres hk g2
      generalize classOf v.x = c at H1 ⊢
      by_cases h0 : c = 0
      · subst h0
        go_enter Tryz.func50, Tryz.ntmps50
        go_wp2_with (go_at_call 82; ((with_reducible refine (H1.out _).mono ?_); rintro e w1 ⟨rfl, rfl⟩))
        go_ret
        exact ⟨rfl, HB.out⟩
      · by_cases h4 : c = 4
        · subst h4
          go_enter Tryz.func50, Tryz.ntmps50
          go_wp2_with (go_at_call 82; ((with_reducible refine (H1.out _).mono ?_); rintro e w1 ⟨rfl, rfl⟩))
          go_ret
          exact ⟨rfl, HB.out⟩
        · by_cases h5 : c = 5
          · subst h5
            go_enter Tryz.func50, Tryz.ntmps50
            go_wp2_with (go_at_call 82; ((with_reducible refine (H1.out _).mono ?_); rintro e w1 ⟨rfl, rfl⟩))
            go_ret
            exact ⟨rfl, HB.out⟩
          · have hr : (decide (c ≠ 0) && decide (c ≠ 4) && decide (c ≠ 5)) = true := by simp [h0, h4, h5]
            rw [hr]
            clear hr
            go_enter Tryz.func50, Tryz.ntmps50
            go_wp2_with (go_at_call 82; ((with_reducible refine (H1.out _).mono ?_); rintro e w1 ⟨rfl, rfl⟩))
            go_ret
            exact ⟨by simp [h0, h4, h5], HB.out⟩
    · have hres : holdsB v = false := by unfold holdsB; rw [if_neg hk, if_neg hk2]
      have g1 : (v.k == 1) = false := by simp [hk]
      rw [hres]
      clear hres
      go_enter Tryz.func50, Tryz.ntmps50
      go_wp2_with (go_at_call 82; ((with_reducible refine (H1.out _).mono ?_); rintro e w1 ⟨rfl, rfl⟩))
      go_ret
      exact ⟨rfl, HB.out⟩
end Go.Proofs.YtalpbphfmelhhaaGreatDoor

/-! ### The document's step of two values (raceref9.reckons). Written by a program (h26gen.py). -/
namespace Go.Proofs.YtalpbphfmelhhaaGreatDoor
open Go.RowKit Go.Maps Go.Sort
set_option maxRecDepth 100000
attribute [local go_sem] bs_size bs_get bs_toList frombits tobits run_store_float
set_option maxHeartbeats 1000000 in
theorem rk_less (a b : Vl) (w : World) : Calls Tryz.prog 51 #[.int .i64 11, .agg #[.int .i64 a.k, .float .f64 (fb a.x), .string (bs a.s)], .agg #[.int .i64 b.k, .float .f64 (fb b.x), .string (bs b.s)]] w (fun e w' => e = .returned (.tuple #[VA (Vl.ofB (decide (cmpL a b < 0))).k (Vl.ofB (decide (cmpL a b < 0))).x (Vl.ofB (decide (cmpL a b < 0))).s, .int .i64 0]) ∧ Below w.heap.size w w') := by
  have H1 : Hid (∀ W, Calls Tryz.prog 84 #[.agg #[.int .i64 a.k, .float .f64 (fb a.x), .string (bs a.s)], .agg #[.int .i64 b.k, .float .f64 (fb b.x), .string (bs b.s)]] W fun e w' => e = .returned (.int .i64 (cmpL a b)) ∧ Below W.heap.size W w') := fun W => by apply ccmpR; rfl
  generalize cmpL a b = c at H1 ⊢
  have H2 := Lib.hid (bit_any (decide (c < 0)))
  generalize Vl.ofB (decide (c < 0)) = v at H2 ⊢
  unfold VA at H2
  have HW : Hid (Below w.heap.size w ((w.alloc (.cells #[.int .i64 a.k, .float .f64 (fb a.x), .string (bs a.s)] 48)).alloc (.cells #[.int .i64 b.k, .float .f64 (fb b.x), .string (bs b.s)] 48))) := ((Below.refl _ w).alloc (Nat.le_refl _) _).alloc (by simp) _
  go_enter Tryz.func51, Tryz.ntmps51
  go_wp2_with (first | (go_at_call 84; ((with_reducible refine (H1.out _).mono ?_); rintro e w1 ⟨rfl, hb1⟩)) | (go_at_call 83; (refine (H2.out _).mono ?_; rintro e w2 ⟨rfl, hb2⟩; have hb3 := hb1.trans (hb2.mono hb1.size); clear hb1 hb2; obtain ⟨u0, u1, u2, p0, q0, p1, q1, p2, q2, HL, HB⟩ := retV hb3 v; clear hb3; simp only [World.size_alloc] at p0 q0 p1 q1 p2 q2)))
  refine bodyPost_ret (v := .tuple #[VA v.k v.x v.s, .int .i64 0]) (by rw [results_cell_tmp rfl]; simp [asAddr, Result.andThen]; have h := HL.out; simp only [World.size_alloc] at h; rw [h]) rfl ⟨rfl, ?_⟩
  have h := HW.out.trans (HB.out.mono HW.out.size)
  simp only [World.size_alloc] at h
  exact h
set_option maxHeartbeats 1000000 in
theorem rk_same (a b : Vl) (w : World) : Calls Tryz.prog 51 #[.int .i64 12, .agg #[.int .i64 a.k, .float .f64 (fb a.x), .string (bs a.s)], .agg #[.int .i64 b.k, .float .f64 (fb b.x), .string (bs b.s)]] w (fun e w' => e = .returned (.tuple #[VA (Vl.ofB (decide (cmpL a b = 0))).k (Vl.ofB (decide (cmpL a b = 0))).x (Vl.ofB (decide (cmpL a b = 0))).s, .int .i64 0]) ∧ Below w.heap.size w w') := by
  have H1 : Hid (∀ W, Calls Tryz.prog 84 #[.agg #[.int .i64 a.k, .float .f64 (fb a.x), .string (bs a.s)], .agg #[.int .i64 b.k, .float .f64 (fb b.x), .string (bs b.s)]] W fun e w' => e = .returned (.int .i64 (cmpL a b)) ∧ Below W.heap.size W w') := fun W => by apply ccmpR; rfl
  generalize cmpL a b = c at H1 ⊢
  have H2 := Lib.hid (bit_any (decide (c = 0)))
  generalize Vl.ofB (decide (c = 0)) = v at H2 ⊢
  unfold VA at H2
  have HW : Hid (Below w.heap.size w ((w.alloc (.cells #[.int .i64 a.k, .float .f64 (fb a.x), .string (bs a.s)] 48)).alloc (.cells #[.int .i64 b.k, .float .f64 (fb b.x), .string (bs b.s)] 48))) := ((Below.refl _ w).alloc (Nat.le_refl _) _).alloc (by simp) _
  go_enter Tryz.func51, Tryz.ntmps51
  go_wp2_with (first | (go_at_call 84; ((with_reducible refine (H1.out _).mono ?_); rintro e w1 ⟨rfl, hb1⟩)) | (go_at_call 83; (refine (H2.out _).mono ?_; rintro e w2 ⟨rfl, hb2⟩; have hb3 := hb1.trans (hb2.mono hb1.size); clear hb1 hb2; obtain ⟨u0, u1, u2, p0, q0, p1, q1, p2, q2, HL, HB⟩ := retV hb3 v; clear hb3; simp only [World.size_alloc] at p0 q0 p1 q1 p2 q2)))
  refine bodyPost_ret (v := .tuple #[VA v.k v.x v.s, .int .i64 0]) (by rw [results_cell_tmp rfl]; simp [asAddr, Result.andThen]; have h := HL.out; simp only [World.size_alloc] at h; rw [h]) rfl ⟨rfl, ?_⟩
  have h := HW.out.trans (HB.out.mono HW.out.size)
  simp only [World.size_alloc] at h
  exact h
set_option maxHeartbeats 1000000 in
theorem rk_5 (a b : Vl) (ha : a.k ≠ 2) (hb : b.k ≠ 2) (w : World) : Calls Tryz.prog 51 #[.int .i64 5, .agg #[.int .i64 a.k, .float .f64 (fb a.x), .string (bs a.s)], .agg #[.int .i64 b.k, .float .f64 (fb b.x), .string (bs b.s)]] w (fun e w' => e = .returned (.tuple #[VA (Vl.num (opOf .add a.x b.x)).k (Vl.num (opOf .add a.x b.x)).x (Vl.num (opOf .add a.x b.x)).s, .int .i64 0]) ∧ Below w.heap.size w w') := by
  have H1 : Hid (∀ W, Calls Tryz.prog 86 #[.int .i64 0, .float .f64 (fb a.x), .float .f64 (fb b.x)] W fun e w' => e = .returned (.float .f64 (fb (opOf .add a.x b.x))) ∧ Below W.heap.size W w') := fun W => (does0_any a.x b.x W).mono fun e w' h => by obtain ⟨rfl, nd, rfl⟩ := h; exact ⟨rfl, below_drewN (Below.refl _ _) nd⟩
  generalize opOf .add a.x b.x = x at H1 ⊢
  have H2 : Hid (∀ W, Calls Tryz.prog 85 #[.float .f64 (fb x)] W fun e w' => e = .returned (.agg #[.int .i64 (Vl.num x).k, .float .f64 (fb (Vl.num x).x), .string (bs (Vl.num x).s)]) ∧ Below W.heap.size W w') := fun W => cnumR x W
  generalize Vl.num x = v at H2 ⊢
  have ga : (a.k == 2) = false := by simp [ha]
  have gb : (b.k == 2) = false := by simp [hb]
  have HW : Hid (Below w.heap.size w ((w.alloc (.cells #[.int .i64 a.k, .float .f64 (fb a.x), .string (bs a.s)] 48)).alloc (.cells #[.int .i64 b.k, .float .f64 (fb b.x), .string (bs b.s)] 48))) := ((Below.refl _ w).alloc (Nat.le_refl _) _).alloc (by simp) _
  go_enter Tryz.func51, Tryz.ntmps51
  go_wp2_with (first | (go_at_call 86; ((with_reducible refine (H1.out _).mono ?_); rintro e w1 ⟨rfl, hb1⟩)) | (go_at_call 85; ((with_reducible refine (H2.out _).mono ?_); rintro e w2 ⟨rfl, hb2⟩; have hb3 := hb1.trans (hb2.mono hb1.size); clear hb1 hb2; obtain ⟨u0, u1, u2, p0, q0, p1, q1, p2, q2, HL, HB⟩ := retV hb3 v; clear hb3; simp only [World.size_alloc] at p0 q0 p1 q1 p2 q2)))
  refine bodyPost_ret (v := .tuple #[VA v.k v.x v.s, .int .i64 0]) (by rw [results_cell_tmp rfl]; simp [asAddr, Result.andThen]; have h := HL.out; simp only [World.size_alloc] at h; rw [h]) rfl ⟨rfl, ?_⟩
  have h := HW.out.trans (HB.out.mono HW.out.size)
  simp only [World.size_alloc] at h
  exact h
set_option maxHeartbeats 1000000 in
theorem rk_6 (a b : Vl) (ha : a.k ≠ 2) (hb : b.k ≠ 2) (w : World) : Calls Tryz.prog 51 #[.int .i64 6, .agg #[.int .i64 a.k, .float .f64 (fb a.x), .string (bs a.s)], .agg #[.int .i64 b.k, .float .f64 (fb b.x), .string (bs b.s)]] w (fun e w' => e = .returned (.tuple #[VA (Vl.num (opOf .sub a.x b.x)).k (Vl.num (opOf .sub a.x b.x)).x (Vl.num (opOf .sub a.x b.x)).s, .int .i64 0]) ∧ Below w.heap.size w w') := by
  have H1 : Hid (∀ W, Calls Tryz.prog 86 #[.int .i64 1, .float .f64 (fb a.x), .float .f64 (fb b.x)] W fun e w' => e = .returned (.float .f64 (fb (opOf .sub a.x b.x))) ∧ Below W.heap.size W w') := fun W => (does1_any a.x b.x W).mono fun e w' h => by obtain ⟨rfl, nd, rfl⟩ := h; exact ⟨rfl, below_drewN (Below.refl _ _) nd⟩
  generalize opOf .sub a.x b.x = x at H1 ⊢
  have H2 : Hid (∀ W, Calls Tryz.prog 85 #[.float .f64 (fb x)] W fun e w' => e = .returned (.agg #[.int .i64 (Vl.num x).k, .float .f64 (fb (Vl.num x).x), .string (bs (Vl.num x).s)]) ∧ Below W.heap.size W w') := fun W => cnumR x W
  generalize Vl.num x = v at H2 ⊢
  have ga : (a.k == 2) = false := by simp [ha]
  have gb : (b.k == 2) = false := by simp [hb]
  have HW : Hid (Below w.heap.size w ((w.alloc (.cells #[.int .i64 a.k, .float .f64 (fb a.x), .string (bs a.s)] 48)).alloc (.cells #[.int .i64 b.k, .float .f64 (fb b.x), .string (bs b.s)] 48))) := ((Below.refl _ w).alloc (Nat.le_refl _) _).alloc (by simp) _
  go_enter Tryz.func51, Tryz.ntmps51
  go_wp2_with (first | (go_at_call 86; ((with_reducible refine (H1.out _).mono ?_); rintro e w1 ⟨rfl, hb1⟩)) | (go_at_call 85; ((with_reducible refine (H2.out _).mono ?_); rintro e w2 ⟨rfl, hb2⟩; have hb3 := hb1.trans (hb2.mono hb1.size); clear hb1 hb2; obtain ⟨u0, u1, u2, p0, q0, p1, q1, p2, q2, HL, HB⟩ := retV hb3 v; clear hb3; simp only [World.size_alloc] at p0 q0 p1 q1 p2 q2)))
  refine bodyPost_ret (v := .tuple #[VA v.k v.x v.s, .int .i64 0]) (by rw [results_cell_tmp rfl]; simp [asAddr, Result.andThen]; have h := HL.out; simp only [World.size_alloc] at h; rw [h]) rfl ⟨rfl, ?_⟩
  have h := HW.out.trans (HB.out.mono HW.out.size)
  simp only [World.size_alloc] at h
  exact h
set_option maxHeartbeats 1000000 in
theorem rk_7 (a b : Vl) (ha : a.k ≠ 2) (hb : b.k ≠ 2) (w : World) : Calls Tryz.prog 51 #[.int .i64 7, .agg #[.int .i64 a.k, .float .f64 (fb a.x), .string (bs a.s)], .agg #[.int .i64 b.k, .float .f64 (fb b.x), .string (bs b.s)]] w (fun e w' => e = .returned (.tuple #[VA (Vl.num (opOf .mul a.x b.x)).k (Vl.num (opOf .mul a.x b.x)).x (Vl.num (opOf .mul a.x b.x)).s, .int .i64 0]) ∧ Below w.heap.size w w') := by
  have H1 : Hid (∀ W, Calls Tryz.prog 86 #[.int .i64 2, .float .f64 (fb a.x), .float .f64 (fb b.x)] W fun e w' => e = .returned (.float .f64 (fb (opOf .mul a.x b.x))) ∧ Below W.heap.size W w') := fun W => (does2_any a.x b.x W).mono fun e w' h => by obtain ⟨rfl, nd, rfl⟩ := h; exact ⟨rfl, below_drewN (Below.refl _ _) nd⟩
  generalize opOf .mul a.x b.x = x at H1 ⊢
  have H2 : Hid (∀ W, Calls Tryz.prog 85 #[.float .f64 (fb x)] W fun e w' => e = .returned (.agg #[.int .i64 (Vl.num x).k, .float .f64 (fb (Vl.num x).x), .string (bs (Vl.num x).s)]) ∧ Below W.heap.size W w') := fun W => cnumR x W
  generalize Vl.num x = v at H2 ⊢
  have ga : (a.k == 2) = false := by simp [ha]
  have gb : (b.k == 2) = false := by simp [hb]
  have HW : Hid (Below w.heap.size w ((w.alloc (.cells #[.int .i64 a.k, .float .f64 (fb a.x), .string (bs a.s)] 48)).alloc (.cells #[.int .i64 b.k, .float .f64 (fb b.x), .string (bs b.s)] 48))) := ((Below.refl _ w).alloc (Nat.le_refl _) _).alloc (by simp) _
  go_enter Tryz.func51, Tryz.ntmps51
  go_wp2_with (first | (go_at_call 86; ((with_reducible refine (H1.out _).mono ?_); rintro e w1 ⟨rfl, hb1⟩)) | (go_at_call 85; ((with_reducible refine (H2.out _).mono ?_); rintro e w2 ⟨rfl, hb2⟩; have hb3 := hb1.trans (hb2.mono hb1.size); clear hb1 hb2; obtain ⟨u0, u1, u2, p0, q0, p1, q1, p2, q2, HL, HB⟩ := retV hb3 v; clear hb3; simp only [World.size_alloc] at p0 q0 p1 q1 p2 q2)))
  refine bodyPost_ret (v := .tuple #[VA v.k v.x v.s, .int .i64 0]) (by rw [results_cell_tmp rfl]; simp [asAddr, Result.andThen]; have h := HL.out; simp only [World.size_alloc] at h; rw [h]) rfl ⟨rfl, ?_⟩
  have h := HW.out.trans (HB.out.mono HW.out.size)
  simp only [World.size_alloc] at h
  exact h
set_option maxHeartbeats 1000000 in
theorem rk_8 (a b : Vl) (ha : a.k ≠ 2) (hb : b.k ≠ 2) (w : World) : Calls Tryz.prog 51 #[.int .i64 8, .agg #[.int .i64 a.k, .float .f64 (fb a.x), .string (bs a.s)], .agg #[.int .i64 b.k, .float .f64 (fb b.x), .string (bs b.s)]] w (fun e w' => e = .returned (.tuple #[VA (Vl.num (opOf .quo a.x b.x)).k (Vl.num (opOf .quo a.x b.x)).x (Vl.num (opOf .quo a.x b.x)).s, .int .i64 0]) ∧ Below w.heap.size w w') := by
  have H1 : Hid (∀ W, Calls Tryz.prog 86 #[.int .i64 3, .float .f64 (fb a.x), .float .f64 (fb b.x)] W fun e w' => e = .returned (.float .f64 (fb (opOf .quo a.x b.x))) ∧ Below W.heap.size W w') := fun W => (does3_any a.x b.x W).mono fun e w' h => by obtain ⟨rfl, nd, rfl⟩ := h; exact ⟨rfl, below_drewN (Below.refl _ _) nd⟩
  generalize opOf .quo a.x b.x = x at H1 ⊢
  have H2 : Hid (∀ W, Calls Tryz.prog 85 #[.float .f64 (fb x)] W fun e w' => e = .returned (.agg #[.int .i64 (Vl.num x).k, .float .f64 (fb (Vl.num x).x), .string (bs (Vl.num x).s)]) ∧ Below W.heap.size W w') := fun W => cnumR x W
  generalize Vl.num x = v at H2 ⊢
  have ga : (a.k == 2) = false := by simp [ha]
  have gb : (b.k == 2) = false := by simp [hb]
  have HW : Hid (Below w.heap.size w ((w.alloc (.cells #[.int .i64 a.k, .float .f64 (fb a.x), .string (bs a.s)] 48)).alloc (.cells #[.int .i64 b.k, .float .f64 (fb b.x), .string (bs b.s)] 48))) := ((Below.refl _ w).alloc (Nat.le_refl _) _).alloc (by simp) _
  go_enter Tryz.func51, Tryz.ntmps51
  go_wp2_with (first | (go_at_call 86; ((with_reducible refine (H1.out _).mono ?_); rintro e w1 ⟨rfl, hb1⟩)) | (go_at_call 85; ((with_reducible refine (H2.out _).mono ?_); rintro e w2 ⟨rfl, hb2⟩; have hb3 := hb1.trans (hb2.mono hb1.size); clear hb1 hb2; obtain ⟨u0, u1, u2, p0, q0, p1, q1, p2, q2, HL, HB⟩ := retV hb3 v; clear hb3; simp only [World.size_alloc] at p0 q0 p1 q1 p2 q2)))
  refine bodyPost_ret (v := .tuple #[VA v.k v.x v.s, .int .i64 0]) (by rw [results_cell_tmp rfl]; simp [asAddr, Result.andThen]; have h := HL.out; simp only [World.size_alloc] at h; rw [h]) rfl ⟨rfl, ?_⟩
  have h := HW.out.trans (HB.out.mono HW.out.size)
  simp only [World.size_alloc] at h
  exact h
set_option maxHeartbeats 1000000 in
theorem rk_9 (a b : Vl) (ha : a.k ≠ 2) (hb : b.k ≠ 2) (w : World) : Calls Tryz.prog 51 #[.int .i64 9, .agg #[.int .i64 a.k, .float .f64 (fb a.x), .string (bs a.s)], .agg #[.int .i64 b.k, .float .f64 (fb b.x), .string (bs b.s)]] w (fun e w' => e = .returned (.tuple #[VA (Vl.num (leastOf a.x b.x)).k (Vl.num (leastOf a.x b.x)).x (Vl.num (leastOf a.x b.x)).s, .int .i64 0]) ∧ Below w.heap.size w w') := by
  have H1 : Hid (∀ W, Calls Tryz.prog 86 #[.int .i64 4, .float .f64 (fb a.x), .float .f64 (fb b.x)] W fun e w' => e = .returned (.float .f64 (fb (leastOf a.x b.x))) ∧ Below W.heap.size W w') := fun W => (does4_any a.x b.x W).mono fun e w' h => by obtain ⟨rfl, rfl⟩ := h; exact ⟨rfl, Below.refl _ _⟩
  generalize leastOf a.x b.x = x at H1 ⊢
  have H2 : Hid (∀ W, Calls Tryz.prog 85 #[.float .f64 (fb x)] W fun e w' => e = .returned (.agg #[.int .i64 (Vl.num x).k, .float .f64 (fb (Vl.num x).x), .string (bs (Vl.num x).s)]) ∧ Below W.heap.size W w') := fun W => cnumR x W
  generalize Vl.num x = v at H2 ⊢
  have ga : (a.k == 2) = false := by simp [ha]
  have gb : (b.k == 2) = false := by simp [hb]
  have HW : Hid (Below w.heap.size w ((w.alloc (.cells #[.int .i64 a.k, .float .f64 (fb a.x), .string (bs a.s)] 48)).alloc (.cells #[.int .i64 b.k, .float .f64 (fb b.x), .string (bs b.s)] 48))) := ((Below.refl _ w).alloc (Nat.le_refl _) _).alloc (by simp) _
  go_enter Tryz.func51, Tryz.ntmps51
  go_wp2_with (first | (go_at_call 86; ((with_reducible refine (H1.out _).mono ?_); rintro e w1 ⟨rfl, hb1⟩)) | (go_at_call 85; ((with_reducible refine (H2.out _).mono ?_); rintro e w2 ⟨rfl, hb2⟩; have hb3 := hb1.trans (hb2.mono hb1.size); clear hb1 hb2; obtain ⟨u0, u1, u2, p0, q0, p1, q1, p2, q2, HL, HB⟩ := retV hb3 v; clear hb3; simp only [World.size_alloc] at p0 q0 p1 q1 p2 q2)))
  refine bodyPost_ret (v := .tuple #[VA v.k v.x v.s, .int .i64 0]) (by rw [results_cell_tmp rfl]; simp [asAddr, Result.andThen]; have h := HL.out; simp only [World.size_alloc] at h; rw [h]) rfl ⟨rfl, ?_⟩
  have h := HW.out.trans (HB.out.mono HW.out.size)
  simp only [World.size_alloc] at h
  exact h
set_option maxHeartbeats 1000000 in
theorem rk_10 (a b : Vl) (ha : a.k ≠ 2) (hb : b.k ≠ 2) (w : World) : Calls Tryz.prog 51 #[.int .i64 10, .agg #[.int .i64 a.k, .float .f64 (fb a.x), .string (bs a.s)], .agg #[.int .i64 b.k, .float .f64 (fb b.x), .string (bs b.s)]] w (fun e w' => e = .returned (.tuple #[VA (Vl.num (mostOf a.x b.x)).k (Vl.num (mostOf a.x b.x)).x (Vl.num (mostOf a.x b.x)).s, .int .i64 0]) ∧ Below w.heap.size w w') := by
  have H1 : Hid (∀ W, Calls Tryz.prog 86 #[.int .i64 5, .float .f64 (fb a.x), .float .f64 (fb b.x)] W fun e w' => e = .returned (.float .f64 (fb (mostOf a.x b.x))) ∧ Below W.heap.size W w') := fun W => (does5_any a.x b.x W).mono fun e w' h => by obtain ⟨rfl, rfl⟩ := h; exact ⟨rfl, Below.refl _ _⟩
  generalize mostOf a.x b.x = x at H1 ⊢
  have H2 : Hid (∀ W, Calls Tryz.prog 85 #[.float .f64 (fb x)] W fun e w' => e = .returned (.agg #[.int .i64 (Vl.num x).k, .float .f64 (fb (Vl.num x).x), .string (bs (Vl.num x).s)]) ∧ Below W.heap.size W w') := fun W => cnumR x W
  generalize Vl.num x = v at H2 ⊢
  have ga : (a.k == 2) = false := by simp [ha]
  have gb : (b.k == 2) = false := by simp [hb]
  have HW : Hid (Below w.heap.size w ((w.alloc (.cells #[.int .i64 a.k, .float .f64 (fb a.x), .string (bs a.s)] 48)).alloc (.cells #[.int .i64 b.k, .float .f64 (fb b.x), .string (bs b.s)] 48))) := ((Below.refl _ w).alloc (Nat.le_refl _) _).alloc (by simp) _
  go_enter Tryz.func51, Tryz.ntmps51
  go_wp2_with (first | (go_at_call 86; ((with_reducible refine (H1.out _).mono ?_); rintro e w1 ⟨rfl, hb1⟩)) | (go_at_call 85; ((with_reducible refine (H2.out _).mono ?_); rintro e w2 ⟨rfl, hb2⟩; have hb3 := hb1.trans (hb2.mono hb1.size); clear hb1 hb2; obtain ⟨u0, u1, u2, p0, q0, p1, q1, p2, q2, HL, HB⟩ := retV hb3 v; clear hb3; simp only [World.size_alloc] at p0 q0 p1 q1 p2 q2)))
  refine bodyPost_ret (v := .tuple #[VA v.k v.x v.s, .int .i64 0]) (by rw [results_cell_tmp rfl]; simp [asAddr, Result.andThen]; have h := HL.out; simp only [World.size_alloc] at h; rw [h]) rfl ⟨rfl, ?_⟩
  have h := HW.out.trans (HB.out.mono HW.out.size)
  simp only [World.size_alloc] at h
  exact h
end Go.Proofs.YtalpbphfmelhhaaGreatDoor

/-! ### The document's step of two values, whole (raceref9.reckons). -/
namespace Go.Proofs.YtalpbphfmelhhaaGreatDoor
open Go.RowKit Go.Maps Go.Sort
set_option maxRecDepth 100000
attribute [local go_sem] bs_size bs_get bs_toList frombits tobits run_store_float
set_option maxHeartbeats 1000000 in
theorem rk_bad (c : Int) (h11 : c ≠ 11) (h12 : c ≠ 12) (a b : Vl) (hab : a.k = 2 ∨ b.k = 2) (w : World) : Calls Tryz.prog 51 #[.int .i64 c, .agg #[.int .i64 a.k, .float .f64 (fb a.x), .string (bs a.s)], .agg #[.int .i64 b.k, .float .f64 (fb b.x), .string (bs b.s)]] w (fun e w' => e = .returned (.tuple #[VA 0 0 [], .int .i64 23]) ∧ Below w.heap.size w w') := by
  have HB := Lib.hid (below_va3 w a b)
  have g1 : (c == 11) = false := by simp [h11]
  have g2 : (c == 12) = false := by simp [h12]
  by_cases ha : a.k = 2
  · rw [ha] at HB ⊢
    clear hab
    go_enter Tryz.func51, Tryz.ntmps51
    go_wp2_with fail
    refine bodyPost_ret (v := .tuple #[VA 0 0 [], .int .i64 23]) (by rw [results_cell_tmp rfl]; simp [asAddr, Result.andThen, go_sem, VA] <;> exact ⟨rfl, rfl⟩) rfl ⟨rfl, HB.out⟩
  · have hb : b.k = 2 := hab.resolve_left ha
    have g3 : (a.k == 2) = false := by simp [ha]
    rw [hb] at HB ⊢
    clear hab hb
    go_enter Tryz.func51, Tryz.ntmps51
    go_wp2_with fail
    refine bodyPost_ret (v := .tuple #[VA 0 0 [], .int .i64 23]) (by rw [results_cell_tmp rfl]; simp [asAddr, Result.andThen, go_sem, VA] <;> exact ⟨rfl, rfl⟩) rfl ⟨rfl, HB.out⟩
def RkPost (w : World) (c : Int) (a b : Vl) (e : Ending) (w' : World) : Prop := ∃ v : Vl, e = .returned (.tuple #[VA v.k v.x v.s, .int .i64 (twoP c a b).2]) ∧ ((twoP c a b).2 = 0 → (twoP c a b).1 = [v]) ∧ Below w.heap.size w w'
theorem reckons_any (c : Int) (h5 : 5 ≤ c) (h12 : c ≤ 12) (a b : Vl) (w : World) : Calls Tryz.prog 51 #[.int .i64 c, .agg #[.int .i64 a.k, .float .f64 (fb a.x), .string (bs a.s)], .agg #[.int .i64 b.k, .float .f64 (fb b.x), .string (bs b.s)]] w (RkPost w c a b) := by
  have fin : ∀ (v : Vl) (x : Int), (twoP c a b).2 = x → (x = 0 → (twoP c a b).1 = [v]) → ∀ e w', e = .returned (.tuple #[VA v.k v.x v.s, .int .i64 x]) ∧ Below w.heap.size w w' → RkPost w c a b e w' := by
    intro v x h1 h2 e w' h
    exact ⟨v, by rw [h1]; exact h.1, fun e => h2 (h1 ▸ e), h.2⟩
  by_cases e11 : c = 11
  · subst e11
    exact (rk_less a b w).mono (fin _ 0 (by simp [twoP]) (fun _ => by simp [twoP]))
  · by_cases e12 : c = 12
    · subst e12
      exact (rk_same a b w).mono (fin _ 0 (by simp [twoP]) (fun _ => by simp [twoP]))
    · have e15 : c ≠ 15 := by omega
      by_cases hab : a.k = 2 ∨ b.k = 2
      · exact (rk_bad c e11 e12 a b hab w).mono (fin ⟨0, 0, []⟩ 23 (by unfold twoP; rw [if_neg e11, if_neg e12, if_neg e15, if_pos hab]) (fun e => by cases e))
      · have ha : a.k ≠ 2 := fun e => hab (.inl e)
        have hb : b.k ≠ 2 := fun e => hab (.inr e)
        have ht : twoP c a b = ([Vl.num (recX c a.x b.x)], 0) := by unfold twoP; rw [if_neg e11, if_neg e12, if_neg e15, if_neg hab]
        have hc : c = 5 ∨ c = 6 ∨ c = 7 ∨ c = 8 ∨ c = 9 ∨ c = 10 := by omega
        rcases hc with rfl | rfl | rfl | rfl | rfl | rfl
        · exact (rk_5 a b ha hb w).mono (fin _ 0 (by rw [ht]) (fun _ => by rw [ht]; rfl))
        · exact (rk_6 a b ha hb w).mono (fin _ 0 (by rw [ht]) (fun _ => by rw [ht]; rfl))
        · exact (rk_7 a b ha hb w).mono (fin _ 0 (by rw [ht]) (fun _ => by rw [ht]; rfl))
        · exact (rk_8 a b ha hb w).mono (fin _ 0 (by rw [ht]) (fun _ => by rw [ht]; rfl))
        · exact (rk_9 a b ha hb w).mono (fin _ 0 (by rw [ht]) (fun _ => by rw [ht]; rfl))
        · exact (rk_10 a b ha hb w).mono (fin _ 0 (by rw [ht]) (fun _ => by rw [ht]; rfl))
end Go.Proofs.YtalpbphfmelhhaaGreatDoor
