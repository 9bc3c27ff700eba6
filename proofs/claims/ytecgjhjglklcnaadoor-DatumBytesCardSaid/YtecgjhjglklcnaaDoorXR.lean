/-
  The walk of the reference's reader: sizes and choices.
  The walk of the reference's reader: floats, texts, the end.
  The walk of the reference's Get. (Lines turned from X13 by a program.)
  The reference's Get and End over any bytes, also over none; the walk of DatumBytes.
-/
import Derived.Test.YtecgjhjglklcnaaDoorX17
import Derived.Test.YtecgjhjglklcnaaDoorX10
import Derived.Test.YtecgjhjglklcnaaDoorX12
import Derived.Test.YtecgjhjglklcnaaDoorX13
import Derived.Test.YtecgjhjglklcnaaDoorX5
import Derived.Test.YtecgjhjglklcnaaDoorX7
import Derived.Test.YtecgjhjglklcnaaDoorD14
import Derived.Test.YtecgjhjglklcnaaDoorK4
/-! ### The walk of the reference's reader: sizes and choices. -/
namespace Go.Proofs.YtecgjhjglklcnaaDoor
set_option maxRecDepth 100000
open Go.RowKit Go.Shelf Go.Sort
attribute [local go_sem] bs_size bs_get bs_toList frombits tobits run_store_float

theorem rdN_bad {m : List UInt8} (h : rdE m ≠ 0) : rdN m = 0 := by unfold rdN; rw [if_neg h]
theorem rint_ok {i : Nat} {p : Nat} {a : Option Addr} {cap : Nat} {l : List UInt8} (hl : l.length ≤ 1000000) (hi : i ≤ l.length) {q : Int} (hE : rdE (l.drop i) = 0) (w : World) (h : Rr w p a cap l i 0 q) :
    Calls Tryd.prog 106 #[.pointer (some ⟨p, 0, none⟩)] w fun e w' => e = .returned (.int .i64 (rdN (l.drop i))) ∧ RDone w p a cap l (cN l i : Nat) 0 q w' :=
  (refInt_any i p a cap l hl hi q w h).mono fun _e _w' ⟨h1, h2, _⟩ => ⟨h1, h2 hE⟩
theorem rint_bad {i : Nat} {p : Nat} {a : Option Addr} {cap : Nat} {l : List UInt8} (hl : l.length ≤ 1000000) (hi : i ≤ l.length) {q : Int} (hE : rdE (l.drop i) ≠ 0) (w : World) (h : Rr w p a cap l i 0 q) :
    Calls Tryd.prog 106 #[.pointer (some ⟨p, 0, none⟩)] w fun e w' => e = .returned (.int .i64 0) ∧ RDone w p a cap l i (rdE (l.drop i)) (cP l i) w' :=
  (refInt_any i p a cap l hl hi q w h).mono fun e w' ⟨h1, _, h3⟩ => ⟨by rw [h1, rdN_bad hE], h3 hE⟩
/-- What size does. -/
def SzPost (w : World) (p : Nat) (a : Option Addr) (cap : Nat) (l : List UInt8) (i : Nat) (q most ab : Int) (e : Ending) (w' : World) : Prop :=
  (cE l i most ab = 0 → e = .returned (.int .i64 (rdN (l.drop i))) ∧ RDone w p a cap l (cN l i) 0 q w') ∧
  (cE l i most ab ≠ 0 → e = .returned (.int .i64 0) ∧ RDone w p a cap l i (cE l i most ab) (cP l i) w')
set_option maxHeartbeats 4000000 in
theorem rsz_any (most ab : Int) (hab : (ab != 0) = true) (i : Nat) (p : Nat) (a : Option Addr) (cap : Nat) (l : List UInt8) (hl : l.length ≤ 1000000) (hi : i ≤ l.length) (q : Int) (w : World) (h : Rr w p a cap l i 0 q) :
    Calls Tryd.prog 98 #[.pointer (some ⟨p, 0, none⟩), .int .i64 most, .int .i64 ab] w (SzPost w p a cap l i q most ab) := by
  have HR := Lib.hid h
  obtain ⟨h0, h1, h2, h3, f1, f2, f3, hrd, _⟩ := h
  clear hrd
  by_cases hE : rdE (l.drop i) = 0
  · have HE := Lib.hid hE
    have HNO := Lib.hid (rint_ok hl hi hE w HR.out)
    have HCE : Hid (cE l i most ab = if rdN (l.drop i) < 0 then 4 else if most < rdN (l.drop i) then ab else 0) := by unfold cE; rw [if_neg (by rw [hE]; simp)]; exact rfl
    have HCP : Hid (cP l i = i) := by unfold cP; rw [hE, if_neg (by decide)]; exact rfl
    clear hE
    obtain ⟨N, hN⟩ : ∃ N, rdN (l.drop i) = N := ⟨_, rfl⟩
    have HNN := Lib.hid hN
    rw [hN] at HNO HCE
    clear hN
    obtain ⟨c, hc⟩ : ∃ c, cN l i = c := ⟨_, rfl⟩
    have HCC := Lib.hid hc
    rw [hc] at HNO
    clear hc
    go_enter Tryd.func98, Tryd.ntmps98
    go_wp2_with fail
    go_at_call 106
    refine (HNO.out).mono ?_
    rintro e w1 ⟨rfl, hd1⟩
    have HD1 := Lib.hid hd1
    obtain ⟨g0, g1, g2, g3, k1, k2, k3, _, _⟩ := hd1.1
    clear hd1 h0 h1 h2 h3 f1 f2 f3
    by_cases c1 : N < 0
    · have HC : Hid (cE l i most ab = 4) := by rw [HCE.out, if_pos c1]; exact rfl
      have d1 : decide (N < 0) = true := decide_eq_true c1
      have HS : Hid (RDone w p a cap l i 0 q (w1.setCell ⟨p, 1, none⟩ (.int .i64 (i : Int)))) := HD1.out.setAt _
      clear c1 HCE
      go_wp2_with (go_at_call 99; ((with_reducible refine (stop_any 4 _ p _ _ _ _ _ _ HS.out.rr).mono ?_); rintro e w2 ⟨rfl, hd2⟩; have HD2 := Lib.hid hd2; clear hd2))
      go_ret
      exact ⟨fun h => absurd (HC.out.symm.trans h) (by decide), fun _ => ⟨rfl, by rw [HC.out, HCP.out]; exact RDone.next HS.out.2 HD2.out⟩⟩
    · have d1 : decide (N < 0) = false := decide_eq_false c1
      by_cases c2 : most < N
      · have HC : Hid (cE l i most ab = ab) := by rw [HCE.out, if_neg c1, if_pos c2]; exact rfl
        have d2 : decide (most < N) = true := decide_eq_true c2
        have HS : Hid (RDone w p a cap l i 0 q (w1.setCell ⟨p, 1, none⟩ (.int .i64 (i : Int)))) := HD1.out.setAt _
        have HAB : Hid (ab ≠ 0) := by intro e; rw [e] at hab; cases hab
        clear c1 c2 HCE
        go_wp2_with (go_at_call 99; ((with_reducible refine (stop_any ab _ p _ _ _ _ _ _ HS.out.rr).mono ?_); rintro e w2 ⟨rfl, hd2⟩; have HD2 := Lib.hid hd2; clear hd2))
        go_ret
        exact ⟨fun h => absurd (HC.out.symm.trans h) HAB.out, fun _ => ⟨rfl, by rw [HC.out, HCP.out]; exact RDone.next HS.out.2 HD2.out⟩⟩
      · have HC : Hid (cE l i most ab = 0) := by rw [HCE.out, if_neg c1, if_neg c2]; exact rfl
        have d2 : decide (most < N) = false := decide_eq_false c2
        clear c1 c2 HCE
        go_wp2_with fail
        go_ret
        exact ⟨fun _ => ⟨by rw [HNN.out]; rfl, by rw [HCC.out]; exact HD1.out⟩, fun h => absurd HC.out h⟩
  · have HE := Lib.hid hE
    have HNO := Lib.hid (rint_bad hl hi hE w HR.out)
    have HC : Hid (cE l i most ab = rdE (l.drop i)) := by unfold cE; rw [if_pos hE]; exact rfl
    obtain ⟨E, hEE⟩ : ∃ E, rdE (l.drop i) = E := ⟨_, rfl⟩
    rw [hEE] at HNO HC
    have e0 : (E != 0) = true := by rw [← hEE]; simpa using hE
    have HE0 : Hid (E ≠ 0) := by rw [← hEE]; exact hE
    clear hE hEE HE
    go_enter Tryd.func98, Tryd.ntmps98
    go_wp2_with fail
    go_at_call 106
    refine (HNO.out).mono ?_
    rintro e w1 ⟨rfl, hd1⟩
    have HD1 := Lib.hid hd1
    obtain ⟨g0, g1, g2, g3, k1, k2, k3, _, _⟩ := hd1.1
    clear hd1 h0 h1 h2 h3 f1 f2 f3
    go_wp2_with fail
    go_ret
    exact ⟨fun h => absurd (HC.out.symm.trans h) HE0.out, fun _ => ⟨rfl, by rw [HC.out]; exact HD1.out⟩⟩
theorem rchoice_any (most : Int) (i : Nat) (p : Nat) (a : Option Addr) (cap : Nat) (l : List UInt8) (hl : l.length ≤ 1000000) (hi : i ≤ l.length) (q : Int) (w : World) (h : Rr w p a cap l i 0 q) :
    Calls Tryd.prog 70 #[.pointer (some ⟨p, 0, none⟩), .int .i64 most] w (ChPost w p a cap l i q most) := by
  have HC := Lib.hid (rsz_any most 4 rfl i p a cap l hl hi q w h)
  clear h
  go_enter Tryd.func70, Tryd.ntmps70
  go_wp2_with fail
  go_at_call 98
  by_cases hE : cE l i most 4 = 0
  · refine (HC.out).mono (fun e w1 hp => ?_)
    obtain ⟨rfl, hd1⟩ := hp.1 hE
    have HE := Lib.hid hE
    have HD1 := Lib.hid hd1
    clear hd1 hE hp
    go_wp2
    go_ret
    exact ⟨fun _ => ⟨rfl, HD1.out⟩, fun h => absurd HE.out h⟩
  · refine (HC.out).mono (fun e w1 hp => ?_)
    obtain ⟨rfl, hd1⟩ := hp.2 hE
    have HE := Lib.hid hE
    have HD1 := Lib.hid hd1
    clear hd1 hE hp
    go_wp2
    go_ret
    exact ⟨fun h => absurd h HE.out, fun _ => ⟨rfl, HD1.out⟩⟩
end Go.Proofs.YtecgjhjglklcnaaDoor

/-! ### The walk of the reference's reader: floats, texts, the end. -/
namespace Go.Proofs.YtecgjhjglklcnaaDoor
set_option maxRecDepth 100000
open Go.RowKit Go.Shelf Go.Sort
attribute [local go_sem] bs_size bs_get bs_toList frombits tobits run_store_float

set_option maxHeartbeats 4000000 in
theorem rfloat_any (i : Nat) (p : Nat) (a : Option Addr) (cap : Nat) (l : List UInt8) (hl : l.length ≤ 1000000) (hi : i ≤ l.length) (q : Int) (w : World) (h : Rr w p a cap l i 0 q) :
    Calls Tryd.prog 71 #[.pointer (some ⟨p, 0, none⟩)] w (FlPost w p a cap l i q) := by
  have HR := Lib.hid h
  obtain ⟨h0, h1, h2, h3, f1, f2, f3, hrd, _⟩ := h
  have hpl : p < w.heap.size := World.block_lt_of_cell? w _ h0
  have HRD := Lib.hid hrd
  obtain ⟨n, hn⟩ : ∃ n, l.length = n := ⟨_, rfl⟩
  have HN := Lib.hid hn
  rw [hn] at hl hi h0
  clear hn hrd
  have s1 : IntKind.i64.wrap ((n : Int) - (i : Int)) = (n : Int) - (i : Int) := IntWalk.i64_in _ (by omega)
  by_cases h8 : n - i < 8
  · have HE : Hid (fE l i = 5) := by unfold fE; rw [HN.out]; exact if_pos h8
    have HP : Hid (fP l i = n) := by unfold fP; rw [HN.out]; exact if_pos h8
    have hd : decide ((n : Int) - (i : Int) < 8) = true := decide_eq_true (by omega)
    clear h8
    go_enter Tryd.func71, Tryd.ntmps71
    go_wp2_with fail
    go_quiet (fail)
    go_wp2_with (go_at_call 99; ((with_reducible refine (stop_any 5 _ p _ _ _ _ _ _ (HRD0 HR.out _)).mono ?_); rintro e w' ⟨rfl, hdn⟩; have HD := Lib.hid hdn; clear hdn))
    go_ret
    exact ⟨fun h => absurd (HE.out.symm.trans h) (by decide), fun _ => ⟨rfl, by rw [HE.out, HP.out]; exact RDone.next (Fr.of_new (below_drewN (Below.refl _ _) _)) HD.out⟩⟩
  · have hd : decide ((n : Int) - (i : Int) < 8) = false := decide_eq_false (by omega)
    obtain ⟨g, hg⟩ : ∃ g, (l.drop i).take 8 = g := ⟨_, rfl⟩
    have hgl : g.length = 8 := by rw [← hg, List.length_take, List.length_drop, HN.out]; omega
    have HG := Lib.hid hg
    have HGL := Lib.hid hgl
    obtain ⟨b, off, ha, hbl, hcell⟩ := HRD.out.at (by rw [HN.out]; omega)
    subst ha
    have HCELL : Hid (∀ k, k < 8 → w.cell? ⟨b, off + (i + k), none⟩ = some (.int .u8 (n8 (g.getD k 0)))) := fun k hk => by
      rw [hcell (i + k) (by rw [HN.out]; omega), ← HG.out]
      congr 3
      simp [List.getD, hk]
    clear hcell hg hgl
    have hn8 : i + 8 ≤ n := by omega
    have HE0 : Hid (fE l i = if canon (r8 g) = r8 g then 0 else 4) := by unfold fE fU; rw [HN.out, if_neg h8, HG.out]; exact rfl
    have HP : Hid (fP l i = i) := by unfold fP; rw [HN.out]; exact if_neg h8
    have HU : Hid (fU l i = r8 g) := by unfold fU; rw [HG.out]; exact rfl
    clear h8
    go_enter Tryd.func71, Tryd.ntmps71
    go_wp2_with fail
    go_quiet (fail)
    go_wp2_with fail
    go_loopw [3, 4] (fun u j wr => ∃ (k : Nat) (x : Int), k ≤ 8 ∧ j = .int .i64 x ∧ Hid (x = (k : Int) - 1) ∧ u = .int .u64 (n64 (r8 (g.drop k))) ∧ Hid (Below w.heap.size w wr)) (fun _ j _ => (intOf j + 1).toNat)
    case atStart =>
      refine ⟨8, 7, Nat.le_refl _, rfl, (by decide : (7 : Int) = ((8 : Nat) : Int) - 1), ?_, below_drewN (Below.refl _ _) _⟩
      rw [List.drop_of_length_le (by rw [HGL.out]; exact Nat.le_refl _)]; rfl
    case round =>
      obtain ⟨k, x, hk, rfl, HX, rfl, HB⟩ := hrel
      have HR1 := Lib.hid (HR.out.below HB.out)
      obtain ⟨g0, g1, g2, g3, k1, k2, k3, _, _⟩ := HR.out.below HB.out
      rw [HN.out] at g0
      have hp1 : p < wr.heap.size := World.block_lt_of_cell? wr _ g0
      clear h0 h1 h2 h3 f1 f2 f3 hd
      by_cases hk0 : k = 0
      · have hx : x = -1 := by have := HX.out; omega
        subst hx
        subst hk0
        rw [List.drop_zero]
        obtain ⟨U, hU⟩ : ∃ U, r8 g = U := ⟨_, rfl⟩
        rw [hU] at HE0 HU ⊢
        clear hU
        have q1 := n64_eq (canon U) U
        have HO : Hid (∀ W, Calls Tryd.prog 85 #[.int .u64 (n64 U)] W fun e w' => e = .returned (.float .f64 (fb (canon U))) ∧ w' = W) := fun W => refOf_any U W
        have HBI : Hid (∀ W, Calls Tryd.prog 77 #[.float .f64 (fb (canon U))] W fun e w' => e = .returned (.int .u64 (n64 (canon U))) ∧ w' = W) := fun W => by have := refBits_any (canon U) W; rw [canon_canon] at this; exact this
        by_cases hc : canon U = U
        · have HE : Hid (fE l i = 0) := HE0.out.trans (if_pos hc)
          have HCC := Lib.hid hc
          rw [show (canon U == U) = true by rw [beq_iff_eq]; exact hc] at q1
          clear hc HE0
          go_wp2_with (first | (go_at_call 85; ((with_reducible refine (HO.out _).mono ?_); rintro e w' ⟨rfl, rfl⟩)) | (go_at_call 77; ((with_reducible refine (HBI.out _).mono ?_); rintro e w' ⟨rfl, rfl⟩)))
          go_ret
          exact ⟨fun _ => ⟨by rw [HU.out]; show _ = Ending.returned (.float .f64 (fb U)); rw [← HCC.out]; simp [HCC.out], by first | exact (RDone.next (Fr.of_new HB.out) (RDone.same HR1.out)).setAt _ | skip⟩, fun h => absurd HE.out h⟩
        · have HE : Hid (fE l i = 4) := HE0.out.trans (if_neg hc)
          rw [show (canon U == U) = false by rw [beq_eq_false_iff_ne]; exact hc] at q1
          clear hc HE0
          go_wp2_with (first | (go_at_call 85; ((with_reducible refine (HO.out _).mono ?_); rintro e w' ⟨rfl, rfl⟩)) | (go_at_call 77; ((with_reducible refine (HBI.out _).mono ?_); rintro e w' ⟨rfl, rfl⟩)) | (go_at_call 99; ((with_reducible refine (stop_any 4 _ p _ _ _ _ _ _ HR1.out).mono ?_); rintro e w' ⟨rfl, hdn⟩; have HD := Lib.hid hdn; clear hdn)))
          go_ret
          exact ⟨fun h => absurd (HE.out.symm.trans h) (by decide), fun _ => ⟨rfl, by rw [HE.out, HP.out]; exact RDone.next (Fr.of_new HB.out) HD.out⟩⟩
      · obtain ⟨m, rfl⟩ : ∃ m, k = m + 1 := ⟨k - 1, by omega⟩
        have hx : x = (m : Int) := by have := HX.out; omega
        subst hx
        have hm8 : m < 8 := by omega
        have hc0 := HCELL.out m hm8
        have hc1 : wr.cell? ⟨b, off + (i + m), none⟩ = some (.int .u8 (n8 (g.getD m 0))) := by rw [HB.out.cell (p := ⟨b, off + (i + m), none⟩) (World.block_lt_of_cell? _ _ hc0)]; exact hc0
        have HST : Hid (r8 (g.drop m) = (r8 (g.drop (m + 1)) <<< 8) ||| (g.getD m 0).toUInt64) := r8_step g m (by rw [HGL.out]; exact hm8)
        clear hc0 hk0
        generalize g.getD m 0 = c at *
        generalize r8 (g.drop (m + 1)) = V at *
        have q1 := n8_to64 c
        have q2 : Op.shift .shl .u64 (n64 V) .u64 8 = pure (.int .u64 (n64 (V <<< 8))) := sh64_shl V .u64 8 (by decide) (by decide)
        have q3 := n64_or (V <<< 8) c.toUInt64
        rw [← HST.out] at q3
        have t1 : IntKind.i64.wrap ((i : Int) + (m : Int)) = (i : Int) + (m : Int) := IntWalk.i64_in _ (by omega)
        have t2 : (0 : Int) ≤ (i : Int) + (m : Int) := by omega
        have t3 : ((i : Int) + (m : Int)).toNat = i + m := by omega
        have t4 : (i : Int) + (m : Int) < (n : Int) := by omega
        go_wp2_with fail
        go_quiet (fail)
        clear t1 t2 t3 t4
        go_wp2
        go_roundw
        case rel => exact ⟨m, (m : Int) - 1, by omega, by go_num, rfl, by first | rfl | skip, below_drewN HB.out _⟩
        case measure => simp [intOf]

set_option maxHeartbeats 4000000 in
theorem rtext_any (i : Nat) (p : Nat) (a : Option Addr) (cap : Nat) (l : List UInt8) (hl : l.length ≤ 1000000) (hi : i ≤ l.length) (q : Int) (w : World) (h : Rr w p a cap l i 0 q) :
    Calls Tryd.prog 72 #[.pointer (some ⟨p, 0, none⟩), .int .i64 64] w (TxPost w p a cap l i q) := by
  have HR := Lib.hid h
  have HC := Lib.hid (rsz_any 64 2 rfl i p a cap l hl hi q w h)
  obtain ⟨h0, h1, h2, h3, f1, f2, f3, hrd, _⟩ := h
  clear hrd
  go_enter Tryd.func72, Tryd.ntmps72
  go_wp2_with fail
  go_at_call 98
  by_cases hE : cE l i 64 2 = 0
  · refine (HC.out).mono (fun e w1 hp => ?_)
    obtain ⟨rfl, hd1⟩ := hp.1 hE
    obtain ⟨hE0, hN0, hN1⟩ := cE_bd (by decide) hE
    have hcn := cN_le hi hE0
    have HE := Lib.hid hE
    have HD1 := Lib.hid hd1
    obtain ⟨g0, g1, g2, g3, k1, k2, k3, hrd1, hbn⟩ := hd1.1
    clear hd1 h0 h1 h2 h3 f1 f2 f3 hE hp hrd1 hbn hE0
    have HT0 : Hid (tE l i = if l.length - cN l i < (rdN (l.drop i)).toNat then 5 else 0) := by unfold tE; rw [HE.out]; exact if_neg (by simp)
    have HTP : Hid (tP l i = l.length) := by unfold tP; rw [HE.out]; exact if_neg (by simp)
    have HTS : Hid (tS l i = (l.drop (cN l i)).take (rdN (l.drop i)).toNat) := rfl
    have HTN : Hid (tN l i = cN l i + (rdN (l.drop i)).toNat) := rfl
    obtain ⟨c, hc⟩ : ∃ c, cN l i = c := ⟨_, rfl⟩
    obtain ⟨N, hN⟩ : ∃ N, rdN (l.drop i) = N := ⟨_, rfl⟩
    obtain ⟨n, hn⟩ : ∃ n, l.length = n := ⟨_, rfl⟩
    have HN := Lib.hid hn
    rw [hc] at hcn HT0 HTS HTN HD1 g1
    rw [hN] at hN0 hN1 HT0 HTS HTN ⊢
    rw [hn] at hl hi hcn HT0 HTP g0
    clear hc hN hn
    obtain ⟨M, rfl⟩ : ∃ M : Nat, N = (M : Int) := ⟨N.toNat, by omega⟩
    rw [Int.toNat_natCast] at HT0 HTS HTN
    by_cases hlt : n - c < M
    · have HT : Hid (tE l i = 5) := HT0.out.trans (if_pos hlt)
      have hd : decide ((n : Int) - (c : Int) < (M : Int)) = true := decide_eq_true (by omega)
      clear hlt
      go_wp2_with fail
      go_quiet (fail)
      have HS : Hid (RDone w p a cap l i 0 q ((w1.drewN nq).setCell ⟨p, 1, none⟩ (.int .i64 (i : Int)))) := (HD1.out.drewN nq).setAt _
      go_wp2_with (go_at_call 99; ((with_reducible refine (stop_any 5 _ p _ _ _ _ _ _ HS.out.rr).mono ?_); rintro e w' ⟨rfl, hdn⟩; have HD := Lib.hid hdn; clear hdn))
      go_ret
      exact ⟨fun h => absurd (HT.out.symm.trans h) (by decide), fun _ => ⟨rfl, by rw [HT.out, HTP.out]; exact RDone.next HS.out.2 HD.out⟩⟩
    · have HT : Hid (tE l i = 0) := HT0.out.trans (if_neg hlt)
      have hd : decide ((n : Int) - (c : Int) < (M : Int)) = false := decide_eq_false (by omega)
      have hcm : c + M ≤ n := by omega
      clear hlt
      go_wp2_with fail
      go_quiet (fail)
      go_wp2_with fail
      have HD2 := Lib.hid (HD1.out.drewN nq)
      clear g0 g1 g2 g3 k1 k2 k3 hd
      generalize w1.drewN nq = W2 at *
      obtain ⟨m0, m1, m2, m3, j1, j2, j3, hr, _⟩ := HD2.out.1
      obtain ⟨ad, cap', hsl, hr2⟩ := run_slice8 (P := Tryd.prog) S8 hr (some (.int .i64 (c : Int))) (some (.int .i64 ((c : Int) + (M : Int)))) c (c + M) (.inr rfl) (.inr (by rw [Int.natCast_add])) (by omega) (by rw [HN.out]; omega)
      rw [show c + M - c = M by omega] at hsl hr2
      rw [← HTS.out] at hr2
      have hcv : ∀ nd, (convert 44 9 (.slice ad M cap')).run Tryd.prog (W2.drewN nd) = .ok (.string (bs (tS l i))) (W2.drewN nd) := fun nd =>
        run_toStr (P := Tryd.prog) (hr2.below (below_drewN (Below.refl _ _) nd)) 44 5 9 Tryd.underlying44 Tryd.underlying5 Tryd.underlying9
      have hcv1 := hcv 1
      rw [HN.out] at hsl m0
      clear hr hr2
      go_quiet (fail)
      go_wp2
      go_ret
      exact ⟨fun _ => ⟨rfl, by rw [HTN.out]; exact (HD2.out.drewN _).setAt _⟩, fun h => absurd HT.out h⟩
  · refine (HC.out).mono (fun e w1 hp => ?_)
    obtain ⟨rfl, hd1⟩ := hp.2 hE
    have HE := Lib.hid hE
    have HD1 := Lib.hid hd1
    have HT : Hid (tE l i = cE l i 64 2) := if_pos hE
    have HTP : Hid (tP l i = cP l i) := if_pos hE
    obtain ⟨g0, g1, g2, g3, k1, k2, k3, _, _⟩ := hd1.1
    have e0 : (cE l i 64 2 != 0) = true := by simpa using hE
    clear hd1 h0 h1 h2 h3 f1 f2 f3 hE hp
    generalize cE l i 64 2 = E at *
    go_wp2
    go_ret
    exact ⟨fun h => absurd (HT.out.symm.trans h) HE.out, fun _ => ⟨rfl, by rw [HT.out, HTP.out]; exact HD1.out⟩⟩
set_option maxHeartbeats 1000000 in
theorem rend_any (p : Nat) (a : Option Addr) (cap : Nat) (l : List UInt8) (_hl : l.length ≤ 1000000) (i : Nat) (f q : Int) (w : World) (h : Rr w p a cap l i f q) (hq : f = 0 → q = 0) :
    Calls Tryd.prog 42 #[.pointer (some ⟨p, 0, none⟩)] w fun e w' => e = .returned (if f = 0 ∧ i < l.length then .tuple #[.int .i64 6, .int .i64 i] else .tuple #[.int .i64 f, .int .i64 q]) ∧ Below w.heap.size w w' := by
  have HR := Lib.hid h
  obtain ⟨h0, h1, h2, h3, f1, f2, f3, hrd, _⟩ := h
  clear hrd
  by_cases hf : f = 0
  · subst hf
    obtain rfl := hq rfl
    clear hq
    by_cases hi : i < l.length
    · rw [if_pos ⟨rfl, hi⟩]
      go_enter Tryd.func42, Tryd.ntmps42
      go_wp2_with fail
      go_quiet (fail)
      go_wp2_with fail
      go_quiet (fail)
      go_wp2
      go_ret2
      exact ⟨rfl, by first | exact below_drewN (Below.refl _ _) _ | exact below_drewN (below_drewN (Below.refl _ _) _) _⟩
    · rw [if_neg (fun h => hi h.2)]
      go_enter Tryd.func42, Tryd.ntmps42
      go_wp2_with fail
      go_quiet (fail)
      go_wp2
      go_ret2
      exact ⟨rfl, by first | exact below_drewN (Below.refl _ _) _ | exact below_drewN (below_drewN (Below.refl _ _) _) _⟩
  · clear hq
    rw [if_neg (fun h => hf h.1)]
    have hd : (f == 0) = false := beq_eq_false_iff_ne.2 hf
    have hd2 : (f != 0) = true := by simpa using hf
    go_enter Tryd.func42, Tryd.ntmps42
    go_wp2_with fail
    go_quiet (fail)
    go_wp2
    go_ret2
    exact ⟨rfl, by first | exact below_drewN (Below.refl _ _) _ | exact below_drewN (below_drewN (Below.refl _ _) _) _⟩
end Go.Proofs.YtecgjhjglklcnaaDoor

/-! ### The walk of the reference's Get. (Lines turned from X13 by a program.) -/
namespace Go.Proofs.YtecgjhjglklcnaaDoor
set_option maxRecDepth 100000
open Go.RowKit Go.Shelf Go.Sort
attribute [local go_sem] bs_size bs_get bs_toList frombits tobits run_store_float

theorem rdone_new {w w1 w2 : World} {p : Nat} {a : Option Addr} {cap : Nat} {l : List UInt8} {i f q : Int} (h : RDone w p a cap l i f q w1) (hb : Below w1.heap.size w1 w2) : RDone w p a cap l i f q w2 := ⟨h.1.below hb, h.2.trans (Fr.of_new hb)⟩
set_option maxHeartbeats 4000000 in
theorem rget_A (p : Nat) (a : Option Addr) (cap : Nat) (l : List UInt8) (hl : l.length ≤ 1000000) (w : World) (h : Rr w p a cap l 0 0 0) (HBL : Hid (∀ c, blk a = some c → c < w.heap.size)) (hA : cE l 0 2 4 ≠ 0) :
    Calls Tryd.prog 40 #[.pointer (some ⟨p, 0, none⟩)] w (GetPost w p a cap l (getG l)) := by
  have HG : Hid (getG l = ⟨0, 0, [], cE l 0 2 4, cP l 0, 0⟩) := if_pos hA
  rw [HG.out]
  clear HG
  have hpl : p < w.heap.size := World.block_lt_of_cell? w _ h.1
  have hne : w.heap.size ≠ p := by omega
  have HR := Lib.hid h
  have HNE := Lib.hid hne
  have hA2 : (cE l 0 2 4 != 0) = true := by rw [bne_iff_ne]; exact hA
  have HC : Hid (∀ W, Rr W p a cap l 0 0 0 → Calls Tryd.prog 70 #[.pointer (some ⟨p, 0, none⟩), .int .i64 2] W (ChPost W p a cap l 0 0 2)) := fun W h => rchoice_any 2 0 p a cap l hl (Nat.zero_le _) 0 W h
  have HA := Lib.hid hA
  clear h hA
  go_enter Tryd.func40, Tryd.ntmps40
  go_wp2_with fail
  go_at_call 70
  refine (HC.out _ (HR.out.below ((Below.refl _ _).alloc (Nat.le_refl _) _))).mono (fun e w1 hp => ?_)
  obtain ⟨rfl, hd1⟩ := hp.2 HA.out
  obtain ⟨fc, ff, fl⟩ := fr_cells hd1.2 (b := w.heap.size) (by simp) hne
  have HD1 := Lib.hid hd1
  have hp1 : p < w1.heap.size := World.block_lt_of_cell? w1 _ hd1.1.1
  have HP1 := Lib.hid (show w1.heap.size ≠ p by omega)
  have HBL1 : Hid (∀ c, blk a = some c → c < w1.heap.size) := fun c hc => Nat.lt_of_lt_of_le (HBL.out c hc) (Nat.le_trans (by simp) hd1.2.size)
  have g2 := hd1.1.2.2.1
  have hP1n : w1.heap.size ≠ p := by omega
  have hP1m : p ≠ w1.heap.size := by omega
  clear hd1 hp
  go_wp2_with fail
  exact bodyPost_ret (v := VA 0 0 []) (by simp [results, Tryd.results40, go_sem, VA, fc, fl] <;> first | rfl | exact ⟨rfl, rfl⟩ | exact ⟨rfl, rfl, rfl⟩ | skip) rfl ⟨rfl, rdone_new (get_end HD1.out.1 ((Fr.of_new ((Below.refl _ _).alloc (Nat.le_refl _) _)).trans HD1.out.2) HNE.out HBL.out _ _ _) ((Below.refl _ _).alloc (Nat.le_refl _) _)⟩
set_option maxHeartbeats 4000000 in
theorem rget_B (p : Nat) (a : Option Addr) (cap : Nat) (l : List UInt8) (hl : l.length ≤ 1000000) (w : World) (h : Rr w p a cap l 0 0 0) (HBL : Hid (∀ c, blk a = some c → c < w.heap.size)) (hA : cE l 0 2 4 = 0) (hk : rdN (l.drop 0) = 0) :
    Calls Tryd.prog 40 #[.pointer (some ⟨p, 0, none⟩)] w (GetPost w p a cap l (getG l)) := by
  have HG : Hid (getG l = ⟨0, 0, [], 0, 0, cN l 0⟩) := by unfold getG; rw [if_neg (by simp [hA]), hk, if_neg (by decide), if_neg (by decide)]; exact rfl
  rw [HG.out]
  clear HG
  have hpl : p < w.heap.size := World.block_lt_of_cell? w _ h.1
  have hne : w.heap.size ≠ p := by omega
  have HR := Lib.hid h
  have HNE := Lib.hid hne
  have HCN : Hid (cN l 0 ≤ l.length) := cN_le (Nat.zero_le _) (cE_bd (by decide) hA).1
  have HK := Lib.hid hk
  clear hk
  have HC : Hid (∀ W, Rr W p a cap l 0 0 0 → Calls Tryd.prog 70 #[.pointer (some ⟨p, 0, none⟩), .int .i64 2] W (ChPost W p a cap l 0 0 2)) := fun W h => rchoice_any 2 0 p a cap l hl (Nat.zero_le _) 0 W h
  have HA := Lib.hid hA
  clear h hA
  go_enter Tryd.func40, Tryd.ntmps40
  go_wp2_with fail
  go_at_call 70
  refine (HC.out _ (HR.out.below ((Below.refl _ _).alloc (Nat.le_refl _) _))).mono (fun e w1 hp => ?_)
  obtain ⟨rfl, hd1⟩ := hp.1 HA.out
  rw [HK.out]
  obtain ⟨fc, ff, fl⟩ := fr_cells hd1.2 (b := w.heap.size) (by simp) hne
  have HD1 := Lib.hid hd1
  have hp1 : p < w1.heap.size := World.block_lt_of_cell? w1 _ hd1.1.1
  have hP1 : w1.heap.size ≠ p := by omega
  have HP1 := Lib.hid hP1
  have HBL1 : Hid (∀ c, blk a = some c → c < w1.heap.size) := fun c hc => Nat.lt_of_lt_of_le (HBL.out c hc) (Nat.le_trans (by simp) hd1.2.size)
  have g2 := hd1.1.2.2.1
  have hP1n : w1.heap.size ≠ p := by omega
  have hP1m : p ≠ w1.heap.size := by omega
  clear hd1 hp
  go_wp2_with fail
  exact bodyPost_ret (v := VA 0 0 []) (by simp [results, Tryd.results40, go_sem, VA, fc, fl] <;> first | rfl | exact ⟨rfl, rfl⟩ | exact ⟨rfl, rfl, rfl⟩ | skip) rfl ⟨rfl, rdone_new (get_end HD1.out.1 ((Fr.of_new ((Below.refl _ _).alloc (Nat.le_refl _) _)).trans HD1.out.2) HNE.out HBL.out _ _ _) ((Below.refl _ _).alloc (Nat.le_refl _) _)⟩
set_option maxHeartbeats 4000000 in
theorem rget_C1 (p : Nat) (a : Option Addr) (cap : Nat) (l : List UInt8) (hl : l.length ≤ 1000000) (w : World) (h : Rr w p a cap l 0 0 0) (HBL : Hid (∀ c, blk a = some c → c < w.heap.size)) (hA : cE l 0 2 4 = 0) (hk : rdN (l.drop 0) = 1) (hX : fE l (cN l 0) = 0) :
    Calls Tryd.prog 40 #[.pointer (some ⟨p, 0, none⟩)] w (GetPost w p a cap l (getG l)) := by
  have HG : Hid (getG l = ⟨1, fU l (cN l 0), [], 0, 0, cN l 0 + 8⟩) := by unfold getG; rw [if_neg (by simp [hA]), hk, if_pos rfl, if_pos hX]; exact rfl
  rw [HG.out]
  clear HG
  have hpl : p < w.heap.size := World.block_lt_of_cell? w _ h.1
  have hne : w.heap.size ≠ p := by omega
  have HR := Lib.hid h
  have HNE := Lib.hid hne
  have HCN : Hid (cN l 0 ≤ l.length) := cN_le (Nat.zero_le _) (cE_bd (by decide) hA).1
  have HK := Lib.hid hk
  clear hk
  have HC : Hid (∀ W, Rr W p a cap l 0 0 0 → Calls Tryd.prog 70 #[.pointer (some ⟨p, 0, none⟩), .int .i64 2] W (ChPost W p a cap l 0 0 2)) := fun W h => rchoice_any 2 0 p a cap l hl (Nat.zero_le _) 0 W h
  have HA := Lib.hid hA
  clear h hA
  have HX := Lib.hid hX
  clear hX
  go_enter Tryd.func40, Tryd.ntmps40
  go_wp2_with fail
  go_at_call 70
  refine (HC.out _ (HR.out.below ((Below.refl _ _).alloc (Nat.le_refl _) _))).mono (fun e w1 hp => ?_)
  obtain ⟨rfl, hd1⟩ := hp.1 HA.out
  rw [HK.out]
  obtain ⟨fc, ff, fl⟩ := fr_cells hd1.2 (b := w.heap.size) (by simp) hne
  have HD1 := Lib.hid hd1
  have hp1 : p < w1.heap.size := World.block_lt_of_cell? w1 _ hd1.1.1
  have hP1 : w1.heap.size ≠ p := by omega
  have HP1 := Lib.hid hP1
  have HBL1 : Hid (∀ c, blk a = some c → c < w1.heap.size) := fun c hc => Nat.lt_of_lt_of_le (HBL.out c hc) (Nat.le_trans (by simp) hd1.2.size)
  have g2 := hd1.1.2.2.1
  have hP1n : w1.heap.size ≠ p := by omega
  have hP1m : p ≠ w1.heap.size := by omega
  clear hd1 hp
  go_wp2_with fail
  go_at_call 71
  refine (rfloat_any (cN l 0) p a cap l hl HCN.out 0 _ (HD1.out.1.below ((Below.refl _ _).alloc (Nat.le_refl _) _))).mono (fun e w2 hp => ?_)
  obtain ⟨rfl, hd2⟩ := hp.1 HX.out
  obtain ⟨fc2, ff2, fl2⟩ := fr_cells hd2.2 (b := w.heap.size) (by simp; omega) hne
  obtain ⟨fc3, ff3, fl3⟩ := fr_cells hd2.2 (b := w1.heap.size) (by simp) hP1
  have HD2 := Lib.hid hd2
  have HSZ : Hid (w.heap.size ≤ w1.heap.size) := Nat.le_of_lt fl
  have m2 := hd2.1.2.2.1
  clear hd2 hp g2
  go_wp2_with fail
  exact bodyPost_ret (v := VA 1 (fU l (cN l 0)) []) (by simp [results, Tryd.results40, go_sem, VA, fc2, fc, fl] <;> first | rfl | exact ⟨rfl, rfl⟩ | exact ⟨rfl, rfl, rfl⟩ | skip) rfl ⟨rfl, get_end (HD2.out.1.setOther HP1.out (fun c hc => Nat.ne_of_lt (HBL1.out c hc)) _ _) ((((((Fr.of_new ((Below.refl _ _).alloc (Nat.le_refl _) _)).trans HD1.out.2).alloc _).trans HD2.out.2).setCell (fun h => absurd h (Nat.not_lt.2 HSZ.out)) _)) HNE.out HBL.out _ _ _⟩
set_option maxHeartbeats 4000000 in
theorem rget_C0 (p : Nat) (a : Option Addr) (cap : Nat) (l : List UInt8) (hl : l.length ≤ 1000000) (w : World) (h : Rr w p a cap l 0 0 0) (HBL : Hid (∀ c, blk a = some c → c < w.heap.size)) (hA : cE l 0 2 4 = 0) (hk : rdN (l.drop 0) = 1) (hX : fE l (cN l 0) ≠ 0) :
    Calls Tryd.prog 40 #[.pointer (some ⟨p, 0, none⟩)] w (GetPost w p a cap l (getG l)) := by
  have HG : Hid (getG l = ⟨0, 0, [], fE l (cN l 0), fP l (cN l 0), cN l 0⟩) := by unfold getG; rw [if_neg (by simp [hA]), hk, if_pos rfl, if_neg hX]; exact rfl
  rw [HG.out]
  clear HG
  have hpl : p < w.heap.size := World.block_lt_of_cell? w _ h.1
  have hne : w.heap.size ≠ p := by omega
  have HR := Lib.hid h
  have HNE := Lib.hid hne
  have HCN : Hid (cN l 0 ≤ l.length) := cN_le (Nat.zero_le _) (cE_bd (by decide) hA).1
  have HK := Lib.hid hk
  clear hk
  have HC : Hid (∀ W, Rr W p a cap l 0 0 0 → Calls Tryd.prog 70 #[.pointer (some ⟨p, 0, none⟩), .int .i64 2] W (ChPost W p a cap l 0 0 2)) := fun W h => rchoice_any 2 0 p a cap l hl (Nat.zero_le _) 0 W h
  have HA := Lib.hid hA
  clear h hA
  have hX2 : (fE l (cN l 0) != 0) = true := by rw [bne_iff_ne]; exact hX
  have HX := Lib.hid hX
  clear hX
  go_enter Tryd.func40, Tryd.ntmps40
  go_wp2_with fail
  go_at_call 70
  refine (HC.out _ (HR.out.below ((Below.refl _ _).alloc (Nat.le_refl _) _))).mono (fun e w1 hp => ?_)
  obtain ⟨rfl, hd1⟩ := hp.1 HA.out
  rw [HK.out]
  obtain ⟨fc, ff, fl⟩ := fr_cells hd1.2 (b := w.heap.size) (by simp) hne
  have HD1 := Lib.hid hd1
  have hp1 : p < w1.heap.size := World.block_lt_of_cell? w1 _ hd1.1.1
  have hP1 : w1.heap.size ≠ p := by omega
  have HP1 := Lib.hid hP1
  have HBL1 : Hid (∀ c, blk a = some c → c < w1.heap.size) := fun c hc => Nat.lt_of_lt_of_le (HBL.out c hc) (Nat.le_trans (by simp) hd1.2.size)
  have g2 := hd1.1.2.2.1
  have hP1n : w1.heap.size ≠ p := by omega
  have hP1m : p ≠ w1.heap.size := by omega
  clear hd1 hp
  go_wp2_with fail
  go_at_call 71
  refine (rfloat_any (cN l 0) p a cap l hl HCN.out 0 _ (HD1.out.1.below ((Below.refl _ _).alloc (Nat.le_refl _) _))).mono (fun e w2 hp => ?_)
  obtain ⟨rfl, hd2⟩ := hp.2 HX.out
  obtain ⟨fc2, ff2, fl2⟩ := fr_cells hd2.2 (b := w.heap.size) (by simp; omega) hne
  obtain ⟨fc3, ff3, fl3⟩ := fr_cells hd2.2 (b := w1.heap.size) (by simp) hP1
  have HD2 := Lib.hid hd2
  have HSZ : Hid (w.heap.size ≤ w1.heap.size) := Nat.le_of_lt fl
  have m2 := hd2.1.2.2.1
  clear hd2 hp g2
  go_wp2_with fail
  exact bodyPost_ret (v := VA 0 0 []) (by simp [results, Tryd.results40, go_sem, VA, fc2, fc, fl] <;> first | rfl | exact ⟨rfl, rfl⟩ | exact ⟨rfl, rfl, rfl⟩ | skip) rfl ⟨rfl, get_end (HD2.out.1.setOther HP1.out (fun c hc => Nat.ne_of_lt (HBL1.out c hc)) _ _) ((((((Fr.of_new ((Below.refl _ _).alloc (Nat.le_refl _) _)).trans HD1.out.2).alloc _).trans HD2.out.2).setCell (fun h => absurd h (Nat.not_lt.2 HSZ.out)) _)) HNE.out HBL.out _ _ _⟩
set_option maxHeartbeats 4000000 in
theorem rget_D1 (p : Nat) (a : Option Addr) (cap : Nat) (l : List UInt8) (hl : l.length ≤ 1000000) (w : World) (h : Rr w p a cap l 0 0 0) (HBL : Hid (∀ c, blk a = some c → c < w.heap.size)) (hA : cE l 0 2 4 = 0) (hk : rdN (l.drop 0) = 2) (hX : tE l (cN l 0) = 0) :
    Calls Tryd.prog 40 #[.pointer (some ⟨p, 0, none⟩)] w (GetPost w p a cap l (getG l)) := by
  have HG : Hid (getG l = ⟨2, 0, tS l (cN l 0), 0, 0, tN l (cN l 0)⟩) := by unfold getG; rw [if_neg (by simp [hA]), hk, if_neg (by decide), if_pos rfl, if_pos hX]; exact rfl
  rw [HG.out]
  clear HG
  have hpl : p < w.heap.size := World.block_lt_of_cell? w _ h.1
  have hne : w.heap.size ≠ p := by omega
  have HR := Lib.hid h
  have HNE := Lib.hid hne
  have HCN : Hid (cN l 0 ≤ l.length) := cN_le (Nat.zero_le _) (cE_bd (by decide) hA).1
  have HK := Lib.hid hk
  clear hk
  have HC : Hid (∀ W, Rr W p a cap l 0 0 0 → Calls Tryd.prog 70 #[.pointer (some ⟨p, 0, none⟩), .int .i64 2] W (ChPost W p a cap l 0 0 2)) := fun W h => rchoice_any 2 0 p a cap l hl (Nat.zero_le _) 0 W h
  have HA := Lib.hid hA
  clear h hA
  have HX := Lib.hid hX
  clear hX
  go_enter Tryd.func40, Tryd.ntmps40
  go_wp2_with fail
  go_at_call 70
  refine (HC.out _ (HR.out.below ((Below.refl _ _).alloc (Nat.le_refl _) _))).mono (fun e w1 hp => ?_)
  obtain ⟨rfl, hd1⟩ := hp.1 HA.out
  rw [HK.out]
  obtain ⟨fc, ff, fl⟩ := fr_cells hd1.2 (b := w.heap.size) (by simp) hne
  have HD1 := Lib.hid hd1
  have hp1 : p < w1.heap.size := World.block_lt_of_cell? w1 _ hd1.1.1
  have hP1 : w1.heap.size ≠ p := by omega
  have HP1 := Lib.hid hP1
  have HBL1 : Hid (∀ c, blk a = some c → c < w1.heap.size) := fun c hc => Nat.lt_of_lt_of_le (HBL.out c hc) (Nat.le_trans (by simp) hd1.2.size)
  have g2 := hd1.1.2.2.1
  have hP1n : w1.heap.size ≠ p := by omega
  have hP1m : p ≠ w1.heap.size := by omega
  clear hd1 hp
  go_wp2_with fail
  go_at_call 72
  refine (rtext_any (cN l 0) p a cap l hl HCN.out 0 _ (HD1.out.1.below ((Below.refl _ _).alloc (Nat.le_refl _) _))).mono (fun e w2 hp => ?_)
  obtain ⟨rfl, hd2⟩ := hp.1 HX.out
  obtain ⟨fc2, ff2, fl2⟩ := fr_cells hd2.2 (b := w.heap.size) (by simp; omega) hne
  obtain ⟨fc3, ff3, fl3⟩ := fr_cells hd2.2 (b := w1.heap.size) (by simp) hP1
  have HD2 := Lib.hid hd2
  have HSZ : Hid (w.heap.size ≤ w1.heap.size) := Nat.le_of_lt fl
  have m2 := hd2.1.2.2.1
  clear hd2 hp g2
  go_wp2_with fail
  exact bodyPost_ret (v := VA 2 0 (tS l (cN l 0))) (by simp [results, Tryd.results40, go_sem, VA, fc2, fc, fl] <;> first | rfl | exact ⟨rfl, rfl⟩ | exact ⟨rfl, rfl, rfl⟩ | skip) rfl ⟨rfl, get_end (HD2.out.1.setOther HP1.out (fun c hc => Nat.ne_of_lt (HBL1.out c hc)) _ _) ((((((Fr.of_new ((Below.refl _ _).alloc (Nat.le_refl _) _)).trans HD1.out.2).alloc _).trans HD2.out.2).setCell (fun h => absurd h (Nat.not_lt.2 HSZ.out)) _)) HNE.out HBL.out _ _ _⟩
set_option maxHeartbeats 4000000 in
theorem rget_D0 (p : Nat) (a : Option Addr) (cap : Nat) (l : List UInt8) (hl : l.length ≤ 1000000) (w : World) (h : Rr w p a cap l 0 0 0) (HBL : Hid (∀ c, blk a = some c → c < w.heap.size)) (hA : cE l 0 2 4 = 0) (hk : rdN (l.drop 0) = 2) (hX : tE l (cN l 0) ≠ 0) :
    Calls Tryd.prog 40 #[.pointer (some ⟨p, 0, none⟩)] w (GetPost w p a cap l (getG l)) := by
  have HG : Hid (getG l = ⟨0, 0, [], tE l (cN l 0), tP l (cN l 0), cN l 0⟩) := by unfold getG; rw [if_neg (by simp [hA]), hk, if_neg (by decide), if_pos rfl, if_neg hX]; exact rfl
  rw [HG.out]
  clear HG
  have hpl : p < w.heap.size := World.block_lt_of_cell? w _ h.1
  have hne : w.heap.size ≠ p := by omega
  have HR := Lib.hid h
  have HNE := Lib.hid hne
  have HCN : Hid (cN l 0 ≤ l.length) := cN_le (Nat.zero_le _) (cE_bd (by decide) hA).1
  have HK := Lib.hid hk
  clear hk
  have HC : Hid (∀ W, Rr W p a cap l 0 0 0 → Calls Tryd.prog 70 #[.pointer (some ⟨p, 0, none⟩), .int .i64 2] W (ChPost W p a cap l 0 0 2)) := fun W h => rchoice_any 2 0 p a cap l hl (Nat.zero_le _) 0 W h
  have HA := Lib.hid hA
  clear h hA
  have hX2 : (tE l (cN l 0) != 0) = true := by rw [bne_iff_ne]; exact hX
  have HX := Lib.hid hX
  clear hX
  go_enter Tryd.func40, Tryd.ntmps40
  go_wp2_with fail
  go_at_call 70
  refine (HC.out _ (HR.out.below ((Below.refl _ _).alloc (Nat.le_refl _) _))).mono (fun e w1 hp => ?_)
  obtain ⟨rfl, hd1⟩ := hp.1 HA.out
  rw [HK.out]
  obtain ⟨fc, ff, fl⟩ := fr_cells hd1.2 (b := w.heap.size) (by simp) hne
  have HD1 := Lib.hid hd1
  have hp1 : p < w1.heap.size := World.block_lt_of_cell? w1 _ hd1.1.1
  have hP1 : w1.heap.size ≠ p := by omega
  have HP1 := Lib.hid hP1
  have HBL1 : Hid (∀ c, blk a = some c → c < w1.heap.size) := fun c hc => Nat.lt_of_lt_of_le (HBL.out c hc) (Nat.le_trans (by simp) hd1.2.size)
  have g2 := hd1.1.2.2.1
  have hP1n : w1.heap.size ≠ p := by omega
  have hP1m : p ≠ w1.heap.size := by omega
  clear hd1 hp
  go_wp2_with fail
  go_at_call 72
  refine (rtext_any (cN l 0) p a cap l hl HCN.out 0 _ (HD1.out.1.below ((Below.refl _ _).alloc (Nat.le_refl _) _))).mono (fun e w2 hp => ?_)
  obtain ⟨rfl, hd2⟩ := hp.2 HX.out
  obtain ⟨fc2, ff2, fl2⟩ := fr_cells hd2.2 (b := w.heap.size) (by simp; omega) hne
  obtain ⟨fc3, ff3, fl3⟩ := fr_cells hd2.2 (b := w1.heap.size) (by simp) hP1
  have HD2 := Lib.hid hd2
  have HSZ : Hid (w.heap.size ≤ w1.heap.size) := Nat.le_of_lt fl
  have m2 := hd2.1.2.2.1
  clear hd2 hp g2
  go_wp2_with fail
  exact bodyPost_ret (v := VA 0 0 []) (by simp [results, Tryd.results40, go_sem, VA, fc2, fc, fl] <;> first | rfl | exact ⟨rfl, rfl⟩ | exact ⟨rfl, rfl, rfl⟩ | skip) rfl ⟨rfl, get_end (HD2.out.1.setOther HP1.out (fun c hc => Nat.ne_of_lt (HBL1.out c hc)) _ _) ((((((Fr.of_new ((Below.refl _ _).alloc (Nat.le_refl _) _)).trans HD1.out.2).alloc _).trans HD2.out.2).setCell (fun h => absurd h (Nat.not_lt.2 HSZ.out)) _)) HNE.out HBL.out _ _ _⟩
theorem rget_any (p : Nat) (a : Option Addr) (cap : Nat) (l : List UInt8) (hl : l.length ≤ 1000000) (w : World) (h : Rr w p a cap l 0 0 0) (HBL : ∀ c, blk a = some c → c < w.heap.size) :
    Calls Tryd.prog 40 #[.pointer (some ⟨p, 0, none⟩)] w (GetPost w p a cap l (getG l)) := by
  by_cases hA : cE l 0 2 4 = 0
  · have hb := cE_bd (by decide) hA
    have hk : rdN (l.drop 0) = 0 ∨ rdN (l.drop 0) = 1 ∨ rdN (l.drop 0) = 2 := by have := hb.2; omega
    rcases hk with hk | hk | hk
    · exact rget_B p a cap l hl w h HBL hA hk
    · by_cases hX : fE l (cN l 0) = 0
      · exact rget_C1 p a cap l hl w h HBL hA hk hX
      · exact rget_C0 p a cap l hl w h HBL hA hk hX
    · by_cases hX : tE l (cN l 0) = 0
      · exact rget_D1 p a cap l hl w h HBL hA hk hX
      · exact rget_D0 p a cap l hl w h HBL hA hk hX
  · exact rget_A p a cap l hl w h HBL hA
end Go.Proofs.YtecgjhjglklcnaaDoor

/-! ### The reference's Get and End over any bytes, also over none; the walk of DatumBytes. -/
namespace Go.Proofs.YtecgjhjglklcnaaDoor
set_option maxRecDepth 100000
open Go.RowKit Go.Shelf Go.Sort
attribute [local go_sem] bs_size bs_get bs_toList frombits tobits run_store_float

/-- A reader of no bytes, wherever its slice points. -/
def Re (w : World) (p : Nat) (a : Option Addr) (cap : Nat) (E : Int) : Prop :=
  w.cell? ⟨p, 0, none⟩ = some (.slice a 0 cap) ∧ w.cell? ⟨p, 1, none⟩ = some (.int .i64 0) ∧ w.cell? ⟨p, 2, none⟩ = some (.int .i64 E) ∧ w.cell? ⟨p, 3, none⟩ = some (.int .i64 0) ∧ w.frozen? ⟨p, 2, none⟩ = false ∧ w.frozen? ⟨p, 3, none⟩ = false
theorem Re.below {w w' : World} {p : Nat} {a : Option Addr} {cap : Nat} {E : Int} (h : Re w p a cap E) (hb : Below w.heap.size w w') : Re w' p a cap E := by
  obtain ⟨h0, h1, h2, h3, f2, f3⟩ := h
  have hl := World.block_lt_of_cell? w _ h0
  exact ⟨(hb.cell (p := ⟨p, 0, none⟩) hl).trans h0, (hb.cell (p := ⟨p, 1, none⟩) hl).trans h1, (hb.cell (p := ⟨p, 2, none⟩) hl).trans h2, (hb.cell (p := ⟨p, 3, none⟩) hl).trans h3,
    ((Fr.of_new (S := fun _ => False) hb).frozen (p := ⟨p, 2, none⟩) hl (fun h => h)).trans f2, ((Fr.of_new (S := fun _ => False) hb).frozen (p := ⟨p, 3, none⟩) hl (fun h => h)).trans f3⟩
def EPost (w : World) (p : Nat) (a : Option Addr) (cap : Nat) (v : Value) (e : Ending) (w' : World) : Prop := e = .returned v ∧ Re w' p a cap 5 ∧ Fr (IsP p) w w'
theorem stop_e (p : Nat) (a : Option Addr) (cap : Nat) (w : World) (h : Re w p a cap 0) :
    Calls Tryd.prog 99 #[.pointer (some ⟨p, 0, none⟩), .int .i64 5, .int .i64 0] w (EPost w p a cap (.tuple #[])) := by
  obtain ⟨h0, h1, h2, h3, f2, f3⟩ := h
  have hl := World.block_lt_of_cell? w _ h0
  have g3 := cell_o (v := .int .i64 5) h3 (o := 2) (by decide)
  have g0 := cell_o (v := .int .i64 5) h0 (o := 2) (by decide)
  have g1 := cell_o (v := .int .i64 5) h1 (o := 2) (by decide)
  go_enter Tryd.func99, Tryd.ntmps99
  go_wp2
  go_end0
  refine ⟨rfl, ⟨?_, ?_, ?_, ?_, ?_, ?_⟩, frP (frP (Fr.refl _ _) _ _) _ _⟩ <;> simp [go_sem, *]
theorem int_e (p : Nat) (a : Option Addr) (cap : Nat) (w : World) (h : Re w p a cap 0) :
    Calls Tryd.prog 106 #[.pointer (some ⟨p, 0, none⟩)] w (EPost w p a cap (.int .i64 0)) := by
  have HS := Lib.hid (stop_e p a cap w h)
  obtain ⟨h0, h1, h2, h3, f2, f3⟩ := h
  go_enter Tryd.func106, Tryd.ntmps106
  go_wp2_with fail
  go_loop [3] (fun j => j = .int .i64 0) (fun _ => 0)
  case atStart => rfl
  case round =>
    subst hrel
    go_wp2_with (go_at_call 99; ((with_reducible refine (HS.out).mono ?_); rintro e w' ⟨rfl, hr, hf⟩; have HR := Lib.hid hr; have HF := Lib.hid hf; clear hr hf))
    go_ret
    exact ⟨rfl, HR.out, HF.out⟩
theorem size_e (most ab : Int) (p : Nat) (a : Option Addr) (cap : Nat) (w : World) (h : Re w p a cap 0) :
    Calls Tryd.prog 98 #[.pointer (some ⟨p, 0, none⟩), .int .i64 most, .int .i64 ab] w (EPost w p a cap (.int .i64 0)) := by
  have HI := Lib.hid (int_e p a cap w h)
  obtain ⟨h0, h1, h2, h3, f2, f3⟩ := h
  go_enter Tryd.func98, Tryd.ntmps98
  go_wp2_with fail
  go_at_call 106
  refine (HI.out).mono ?_
  rintro e w' ⟨rfl, hr, hf⟩
  have HR := Lib.hid hr
  have HF := Lib.hid hf
  have g2 := hr.2.2.1
  clear hr hf h0 h1 h2 h3 f2 f3
  go_wp2_with fail
  go_ret
  exact ⟨rfl, HR.out, HF.out⟩
theorem choice_e (most : Int) (p : Nat) (a : Option Addr) (cap : Nat) (w : World) (h : Re w p a cap 0) :
    Calls Tryd.prog 70 #[.pointer (some ⟨p, 0, none⟩), .int .i64 most] w (EPost w p a cap (.int .i64 0)) := by
  have HI := Lib.hid (size_e most 4 p a cap w h)
  clear h
  go_enter Tryd.func70, Tryd.ntmps70
  go_wp2_with (go_at_call 98; ((with_reducible refine (HI.out).mono ?_); rintro e w' ⟨rfl, hr, hf⟩; have HR := Lib.hid hr; have HF := Lib.hid hf; clear hr hf))
  go_ret
  exact ⟨rfl, HR.out, HF.out⟩
theorem end_e (p : Nat) (a : Option Addr) (cap : Nat) (w : World) (h : Re w p a cap 5) :
    Calls Tryd.prog 42 #[.pointer (some ⟨p, 0, none⟩)] w fun e w' => e = .returned (.tuple #[.int .i64 5, .int .i64 0]) ∧ Below w.heap.size w w' := by
  obtain ⟨h0, h1, h2, h3, f2, f3⟩ := h
  go_enter Tryd.func42, Tryd.ntmps42
  go_wp2_with fail
  go_quiet (fail)
  go_wp2
  go_ret2
  exact ⟨rfl, by first | exact below_drewN (Below.refl _ _) _ | exact below_drewN (below_drewN (Below.refl _ _) _) _⟩

theorem Re.setOther {w : World} {p : Nat} {a : Option Addr} {cap : Nat} {E : Int} (h : Re w p a cap E) {b : Nat} (hb : b ≠ p) (o : Nat) (v : Value) : Re (w.setCell ⟨b, o, none⟩ v) p a cap E := by
  obtain ⟨h0, h1, h2, h3, f2, f3⟩ := h
  have hl := World.block_lt_of_cell? w _ h0
  have fr : Fr (fun q => q = b) w (w.setCell ⟨b, o, none⟩ v) := (Fr.refl (fun q => q = b) w).setCell (fun _ => rfl) _
  have hn : ¬ p = b := fun e => hb e.symm
  exact ⟨(fr.cell (p := ⟨p, 0, none⟩) hl hn).trans h0, (fr.cell (p := ⟨p, 1, none⟩) hl hn).trans h1, (fr.cell (p := ⟨p, 2, none⟩) hl hn).trans h2, (fr.cell (p := ⟨p, 3, none⟩) hl hn).trans h3, (fr.frozen (p := ⟨p, 2, none⟩) hl hn).trans f2, (fr.frozen (p := ⟨p, 3, none⟩) hl hn).trans f3⟩
set_option maxHeartbeats 2000000 in
theorem get_e (p : Nat) (a : Option Addr) (cap : Nat) (w : World) (h : Re w p a cap 0) :
    Calls Tryd.prog 40 #[.pointer (some ⟨p, 0, none⟩)] w (EPost w p a cap (VA 0 0 [])) := by
  have hpl : p < w.heap.size := World.block_lt_of_cell? w _ h.1
  have hne : w.heap.size ≠ p := by omega
  have HR := Lib.hid h
  have HNE := Lib.hid hne
  clear h
  go_enter Tryd.func40, Tryd.ntmps40
  go_wp2_with fail
  go_at_call 70
  refine (choice_e 2 p a cap _ (HR.out.below ((Below.refl _ _).alloc (Nat.le_refl _) _))).mono ?_
  rintro e w1 ⟨rfl, hr, hf⟩
  obtain ⟨fc, ff, fl⟩ := fr_cells hf (b := w.heap.size) (by simp) hne
  have HR1 := Lib.hid hr
  have HF1 := Lib.hid hf
  have hp1 : p < w1.heap.size := World.block_lt_of_cell? w1 _ hr.1
  have hP1n : w1.heap.size ≠ p := by omega
  have hP1m : p ≠ w1.heap.size := by omega
  have g2 := hr.2.2.1
  clear hr hf
  go_wp2_with fail
  exact bodyPost_ret (v := VA 0 0 []) (by simp [results, Tryd.results40, go_sem, VA, fc, fl] <;> first | rfl | exact ⟨rfl, rfl⟩ | exact ⟨rfl, rfl, rfl⟩ | skip) rfl ⟨rfl, (((HR1.out.setOther HNE.out _ _).setOther HNE.out _ _).setOther HNE.out _ _).below ((Below.refl _ _).alloc (Nat.le_refl _) _),
    ((((((Fr.of_new ((Below.refl _ _).alloc (Nat.le_refl _) _)).trans HF1.out).setCell (fun h => absurd h (Nat.lt_irrefl _)) _).setCell (fun h => absurd h (Nat.lt_irrefl _)) _).setCell (fun h => absurd h (Nat.lt_irrefl _)) _).alloc _)⟩
/-- What End tells behind Get. -/
def endA (l : List UInt8) (g : GV) : Int := if g.f = 0 ∧ g.i < l.length then 6 else g.f
def endB (l : List UInt8) (g : GV) : Int := if g.f = 0 ∧ g.i < l.length then (g.i : Nat) else g.q
theorem end_val (l : List UInt8) (g : GV) : (if g.f = 0 ∧ g.i < l.length then Value.tuple #[.int .i64 6, .int .i64 (g.i : Nat)] else .tuple #[.int .i64 g.f, .int .i64 g.q]) = .tuple #[.int .i64 (endA l g), .int .i64 (endB l g)] := by
  unfold endA endB; split <;> rfl
theorem getG_q (l : List UInt8) (h : (getG l).f = 0) : (getG l).q = 0 := by
  unfold getG at h ⊢
  repeat' split
  all_goals first | rfl | (exfalso; simp_all)
theorem getG_nil : getG [] = ⟨0, 0, [], 5, 0, 0⟩ := by
  unfold getG
  rw [if_pos (by decide)]
  rfl
/-- The reference's Get over any bytes, and End behind it. -/
theorem rget_all (p : Nat) (a : Option Addr) (cap : Nat) (l : List UInt8) (hl : l.length ≤ 1000000) (w : World) (h0 : w.cell? ⟨p, 0, none⟩ = some (.slice a l.length cap)) (h1 : w.cell? ⟨p, 1, none⟩ = some (.int .i64 0)) (h2 : w.cell? ⟨p, 2, none⟩ = some (.int .i64 0)) (h3 : w.cell? ⟨p, 3, none⟩ = some (.int .i64 0))
    (f1 : w.frozen? ⟨p, 1, none⟩ = false) (f2 : w.frozen? ⟨p, 2, none⟩ = false) (f3 : w.frozen? ⟨p, 3, none⟩ = false) (hr : Rd8 w a l.length cap l) (hb : 0 < l.length → ∀ c, blk a = some c → c < w.heap.size ∧ c ≠ p) :
    Calls Tryd.prog 40 #[.pointer (some ⟨p, 0, none⟩)] w fun e w' => e = .returned (VA (getG l).k (getG l).x (getG l).s) ∧ Fr (IsP p) w w' ∧
      ∀ W, Below w'.heap.size w' W → Calls Tryd.prog 42 #[.pointer (some ⟨p, 0, none⟩)] W fun e w'' => e = .returned (.tuple #[.int .i64 (endA l (getG l)), .int .i64 (endB l (getG l))]) ∧ Below W.heap.size W w'' := by
  rcases Nat.eq_zero_or_pos l.length with hz | hz
  · have hnil : l = [] := List.eq_nil_of_length_eq_zero hz
    subst hnil
    rw [getG_nil]
    refine (get_e p a cap w ⟨h0, h1, h2, h3, f2, f3⟩).mono ?_
    rintro e w' ⟨rfl, hre, hf⟩
    exact ⟨rfl, hf, fun W hW => end_e p a cap W (hre.below hW)⟩
  · have hbb := hb hz
    refine (rget_any p a cap l hl w ⟨h0, h1, h2, h3, f1, f2, f3, hr, fun e => (hbb p e).2 rfl⟩ (fun c hc => (hbb c hc).1)).mono ?_
    rintro e w' ⟨rfl, hd⟩
    refine ⟨rfl, hd.2, fun W hW => ?_⟩
    have he := rend_any p a cap l hl (getG l).i (getG l).f (getG l).q W (hd.1.below hW) (getG_q l)
    rw [end_val] at he
    exact he
theorem pget_end {p : Nat} {a : Option Addr} {cap : Nat} {l : List UInt8} (hl : l.length ≤ 1000000) {w w' : World} (hd : RDone w p a cap l (getG l).i (getG l).f (getG l).q w') :
    ∀ W, Below w'.heap.size w' W → Calls Tryd.prog 41 #[.pointer (some ⟨p, 0, none⟩)] W fun e w'' => e = .returned (.tuple #[.int .i64 (endA l (getG l)), .int .i64 (endB l (getG l))]) ∧ Below W.heap.size W w'' := fun W hW => by
  have he := end_any p a cap l hl (getG l).i (getG l).f (getG l).q W (hd.1.below hW) (getG_q l)
  rw [end_val] at he
  exact he
/-- A reader's bytes lie in memory that is there. -/
theorem newReader_any2 (a0 : Option Addr) (cap0 : Nat) (l : List UInt8) (hl : l.length ≤ 1000000) (w : World) (h : Rd8 w a0 l.length cap0 l) :
    Calls Tryd.prog 37 #[.slice a0 l.length cap0] w fun e w' => ∃ (p : Nat) (a : Option Addr) (cap : Nat), e = .returned (.pointer (some ⟨p, 0, none⟩)) ∧ Rr w' p a cap l 0 0 0 ∧ Below w.heap.size w w' ∧ w.heap.size ≤ p ∧ (∀ b, blk a = some b → w.heap.size ≤ b ∧ b < w'.heap.size) := by
  have HR := Lib.hid h
  clear h
  go_enter Tryd.func37, Tryd.ntmps37
  go_wp2_with (at_builtin; refine wpList_app S8 rfl (.tmp 3) (.tmp 4) rfl w.heap.size rfl (World.ownsRow_lit w #[] 0 (Nat.le_refl _) (by decide) rfl) rfl (HR.out.2.below ((Below.refl _ _).alloc (Nat.le_refl _) _)) (B8_one _) (by omega) (by simp [maxLen]; omega) (by simp) ?_)
  intro v2 w2 hown' hb _
  have hown2 : Own8 w2 w.heap.size 5 v2 l := Own8.mk hown' (by simp) (by simp)
  have HB := Lib.hid (Below.trans ((Below.refl _ _).alloc (Nat.le_refl _) _) hb)
  have hlt : ∀ b, v2.ownBlock = some b → w.heap.size ≤ b ∧ b < w2.heap.size := fun b hb => World.ownsRow.lt hown2 b hb
  obtain ⟨a, cap, rfl, hr⟩ := hown2.rd
  have HRD := Lib.hid hr
  have HLT : Hid (∀ b, blk a = some b → w.heap.size ≤ b ∧ b < w2.heap.size) := fun b hb => hlt b (by cases a with | none => cases hb | some x => exact hb)
  clear hown' hown2 hb hlt hr
  go_wp2
  go_ret
  exact ⟨_, a, cap, rfl, rr_new w2 a cap l _ HRD.out (fun b hb => (HLT.out b hb).2), HB.out.alloc HB.out.size _, HB.out.size, fun b hb => ⟨(HLT.out b hb).1, Nat.lt_of_lt_of_le (HLT.out b hb).2 ((Below.refl 0 w2).alloc (Nat.zero_le _) _).size⟩⟩
end Go.Proofs.YtecgjhjglklcnaaDoor
