/-
  The walks of the reader's count, Choice, Fault, End.
-/
import Derived.Test.YtecgjhjglklcnaaDoorX9
namespace Go.Proofs.YtecgjhjglklcnaaDoor
set_option maxRecDepth 100000
open Go.RowKit Go.Shelf Go.Sort
attribute [local go_sem] bs_size bs_get bs_toList frombits tobits run_store_float
theorem RDone.rr {w w' : World} {p : Nat} {a : Option Addr} {cap : Nat} {l : List UInt8} {i f q : Int} (h : RDone w p a cap l i f q w') : Rr w' p a cap l i f q := h.1
/-- What the reading of a number from 0 to most finds. -/
def cE (l : List UInt8) (i : Nat) (most ab : Int) : Int := if rdE (l.drop i) ≠ 0 then rdE (l.drop i) else if rdN (l.drop i) < 0 then 4 else if most < rdN (l.drop i) then ab else 0
def cP (l : List UInt8) (i : Nat) : Int := if rdE (l.drop i) = 5 then (l.length : Int) else (i : Int)
def cN (l : List UInt8) (i : Nat) : Nat := i + (endOf (l.drop i) + 1)
theorem cN_le {l : List UInt8} {i : Nat} (hi : i ≤ l.length) (h : rdE (l.drop i) = 0) : cN l i ≤ l.length := by
  have h1 := endOf_le (l.drop i)
  have h2 : endOf (l.drop i) ≠ (l.drop i).length := fun e => by unfold rdE at h; rw [if_pos e] at h; cases h
  rw [List.length_drop] at h1 h2
  unfold cN; omega
theorem num_ok {i : Nat} {p : Nat} {a : Option Addr} {cap : Nat} {l : List UInt8} (hl : l.length ≤ 1000000) (hi : i ≤ l.length) {i0 q : Int} (hE : rdE (l.drop i) = 0) (w : World) (h : Rr w p a cap l i0 0 q) :
    Calls Tryd.prog 105 #[.pointer (some ⟨p, 0, none⟩), .int .i64 (i : Int)] w fun e w' => e = .returned (.tuple #[.int .i64 (rdN (l.drop i)), .int .i64 (cN l i : Int), .bool true]) ∧ RDone w p a cap l i0 0 q w' :=
  (rnum_any i p a cap l hl hi i0 q w h).mono fun e w' ⟨h1, h2, _⟩ => ⟨by rw [h1]; unfold numV; rw [if_pos hE]; rfl, h2 hE⟩
theorem num_bad {i : Nat} {p : Nat} {a : Option Addr} {cap : Nat} {l : List UInt8} (hl : l.length ≤ 1000000) (hi : i ≤ l.length) {i0 q : Int} (hE : rdE (l.drop i) ≠ 0) (w : World) (h : Rr w p a cap l i0 0 q) :
    Calls Tryd.prog 105 #[.pointer (some ⟨p, 0, none⟩), .int .i64 (i : Int)] w fun e w' => e = .returned (.tuple #[.int .i64 0, .int .i64 (i : Int), .bool false]) ∧ RDone w p a cap l i0 (rdE (l.drop i)) (cP l i) w' :=
  (rnum_any i p a cap l hl hi i0 q w h).mono fun e w' ⟨h1, _, h3⟩ => ⟨by rw [h1]; unfold numV; rw [if_neg hE], h3 hE⟩
/-- What count does. -/
def CntPost (w : World) (p : Nat) (a : Option Addr) (cap : Nat) (l : List UInt8) (i : Nat) (q most ab : Int) (e : Ending) (w' : World) : Prop :=
  (cE l i most ab = 0 → e = .returned (.tuple #[.int .i64 (rdN (l.drop i)), .int .i64 (cN l i : Int), .bool true]) ∧ RDone w p a cap l i 0 q w') ∧
  (cE l i most ab ≠ 0 → e = .returned (.tuple #[.int .i64 0, .int .i64 (i : Int), .bool false]) ∧ RDone w p a cap l i (cE l i most ab) (cP l i) w')
set_option maxHeartbeats 4000000 in
theorem count_any (most ab : Int) (hab : (ab != 0) = true) (i : Nat) (p : Nat) (a : Option Addr) (cap : Nat) (l : List UInt8) (hl : l.length ≤ 1000000) (hi : i ≤ l.length) (q : Int) (w : World) (h : Rr w p a cap l i 0 q) :
    Calls Tryd.prog 96 #[.pointer (some ⟨p, 0, none⟩), .int .i64 most, .int .i64 ab] w (CntPost w p a cap l i q most ab) := by
  have HR := Lib.hid h
  obtain ⟨h0, h1, h2, h3, f1, f2, f3, hrd, _⟩ := h
  have hpl : p < w.heap.size := World.block_lt_of_cell? w _ h0
  clear hrd
  by_cases hE : rdE (l.drop i) = 0
  · have HE := Lib.hid hE
    have HNO : Hid (∀ W, Rr W p a cap l i 0 q → Calls Tryd.prog 105 #[.pointer (some ⟨p, 0, none⟩), .int .i64 (i : Int)] W fun e w' => e = .returned (.tuple #[.int .i64 (rdN (l.drop i)), .int .i64 (cN l i : Int), .bool true]) ∧ RDone W p a cap l i 0 q w') := fun W h => num_ok hl hi hE W h
    have HCE : Hid (cE l i most ab = if rdN (l.drop i) < 0 then 4 else if most < rdN (l.drop i) then ab else 0) := by unfold cE; rw [if_neg (by rw [hE]; simp)]; exact rfl
    have HCP : Hid (cP l i = i) := by unfold cP; rw [hE, if_neg (by decide)]; exact rfl
    clear hE
    obtain ⟨N, hN⟩ : ∃ N, rdN (l.drop i) = N := ⟨_, rfl⟩
    have HNN := Lib.hid hN
    rw [hN] at HNO HCE
    clear hN
    go_enter Tryd.func96, Tryd.ntmps96
    go_wp2_with fail
    go_at_call 105
    refine (HNO.out _ HR.out).mono ?_
    rintro e w1 ⟨rfl, hd1⟩
    have HD1 := Lib.hid hd1
    obtain ⟨g0, g1, g2, g3, k1, k2, k3, _, _⟩ := hd1.1
    have hp1 : p < w1.heap.size := World.block_lt_of_cell? w1 _ g0
    clear hd1 h0 h1 h2 h3 f1 f2 f3
    by_cases c1 : N < 0
    · have HC : Hid (cE l i most ab = 4) := by rw [HCE.out, if_pos c1]; exact rfl
      have d1 : decide (N < 0) = true := decide_eq_true c1
      clear c1 HCE
      go_wp2_with (go_at_call 97; ((with_reducible refine (fail_any 4 _ rfl p _ _ _ _ _ _ HD1.out.rr).mono ?_); rintro e w2 ⟨rfl, hd2⟩; have HD2 := Lib.hid hd2; obtain ⟨m0, m1, m2, m3, j1, j2, j3, _, _⟩ := hd2.1; clear hd2 g0 g1 g2 g3 k1 k2 k3))
      go_quiet (fail)
      go_wp2
      go_ret3
      exact ⟨fun h => absurd (HC.out.symm.trans h) (by decide), fun _ => ⟨rfl, by rw [HC.out, HCP.out]; exact (RDone.next HD1.out.2 HD2.out).drewN _⟩⟩
    · have d1 : decide (N < 0) = false := decide_eq_false c1
      by_cases c2 : most < N
      · have HC : Hid (cE l i most ab = ab) := by rw [HCE.out, if_neg c1, if_pos c2]; exact rfl
        have d2 : decide (most < N) = true := decide_eq_true c2
        have hab0 : Hid (ab ≠ 0) := by intro h; rw [h] at hab; cases hab
        clear c1 c2 HCE
        go_wp2_with (go_at_call 97; ((with_reducible refine (fail_any ab _ hab p _ _ _ _ _ _ HD1.out.rr).mono ?_); rintro e w2 ⟨rfl, hd2⟩; have HD2 := Lib.hid hd2; obtain ⟨m0, m1, m2, m3, j1, j2, j3, _, _⟩ := hd2.1; clear hd2 g0 g1 g2 g3 k1 k2 k3))
        go_quiet (fail)
        go_wp2
        go_ret3
        exact ⟨fun h => absurd (HC.out.symm.trans h) hab0.out, fun _ => ⟨rfl, by rw [HC.out, HCP.out]; exact (RDone.next HD1.out.2 HD2.out).drewN _⟩⟩
      · have HC : Hid (cE l i most ab = 0) := by rw [HCE.out, if_neg c1, if_neg c2]; exact rfl
        have d2 : decide (most < N) = false := decide_eq_false c2
        clear c1 c2 HCE
        go_wp2
        go_ret3
        exact ⟨fun _ => ⟨by rw [HNN.out]; rfl, HD1.out⟩, fun h => absurd HC.out h⟩
  · have HCE : Hid (cE l i most ab = rdE (l.drop i)) := by unfold cE; exact if_pos hE
    have HNB : Hid (∀ W, Rr W p a cap l i 0 q → Calls Tryd.prog 105 #[.pointer (some ⟨p, 0, none⟩), .int .i64 (i : Int)] W fun e w' => e = .returned (.tuple #[.int .i64 0, .int .i64 (i : Int), .bool false]) ∧ RDone W p a cap l i (rdE (l.drop i)) (cP l i) w') := fun W h => num_bad hl hi hE W h
    have HE := Lib.hid hE
    clear hE
    go_enter Tryd.func96, Tryd.ntmps96
    go_wp2_with fail
    go_at_call 105
    refine (HNB.out _ HR.out).mono ?_
    rintro e w1 ⟨rfl, hd1⟩
    have HD1 := Lib.hid hd1
    obtain ⟨g0, g1, g2, g3, k1, k2, k3, _, _⟩ := hd1.1
    clear hd1 h0 h1 h2 h3 f1 f2 f3
    go_wp2_with fail
    go_quiet (fail)
    go_wp2
    go_ret3
    exact ⟨fun h => absurd (HCE.out.symm.trans h) HE.out, fun _ => ⟨rfl, by rw [HCE.out]; exact HD1.out.drewN _⟩⟩
/-- What Choice does. -/
def ChPost (w : World) (p : Nat) (a : Option Addr) (cap : Nat) (l : List UInt8) (i : Nat) (q most : Int) (e : Ending) (w' : World) : Prop :=
  (cE l i most 4 = 0 → e = .returned (.int .i64 (rdN (l.drop i))) ∧ RDone w p a cap l (cN l i) 0 q w') ∧
  (cE l i most 4 ≠ 0 → e = .returned (.int .i64 0) ∧ RDone w p a cap l i (cE l i most 4) (cP l i) w')
set_option maxHeartbeats 2000000 in
theorem choice_any (most : Int) (i : Nat) (p : Nat) (a : Option Addr) (cap : Nat) (l : List UInt8) (hl : l.length ≤ 1000000) (hi : i ≤ l.length) (q : Int) (w : World) (h : Rr w p a cap l i 0 q) :
    Calls Tryd.prog 66 #[.pointer (some ⟨p, 0, none⟩), .int .i64 most] w (ChPost w p a cap l i q most) := by
  have HR := Lib.hid h
  have HC : Hid (∀ W, Rr W p a cap l i 0 q → Calls Tryd.prog 96 #[.pointer (some ⟨p, 0, none⟩), .int .i64 most, .int .i64 4] W (CntPost W p a cap l i q most 4)) := fun W h => count_any most 4 rfl i p a cap l hl hi q W h
  obtain ⟨h0, h1, h2, h3, f1, f2, f3, hrd, _⟩ := h
  have hpl : p < w.heap.size := World.block_lt_of_cell? w _ h0
  clear hrd
  go_enter Tryd.func66, Tryd.ntmps66
  go_wp2_with fail
  go_at_call 96
  by_cases hE : cE l i most 4 = 0
  · refine (HC.out _ HR.out).mono (fun e w1 hp => ?_)
    obtain ⟨rfl, hd1⟩ := hp.1 hE
    have HE := Lib.hid hE
    have HD1 := Lib.hid hd1
    obtain ⟨g0, g1, g2, g3, k1, k2, k3, _, _⟩ := hd1.1
    have hp1 : p < w1.heap.size := World.block_lt_of_cell? w1 _ g0
    clear hd1 h0 h1 h2 h3 f1 f2 f3 hE hp
    go_wp2
    go_ret
    exact ⟨fun _ => ⟨rfl, HD1.out.setAt _⟩, fun h => absurd HE.out h⟩
  · refine (HC.out _ HR.out).mono (fun e w1 hp => ?_)
    obtain ⟨rfl, hd1⟩ := hp.2 hE
    have HE := Lib.hid hE
    have HD1 := Lib.hid hd1
    clear hd1 h0 h1 h2 h3 f1 f2 f3 hE hp
    go_wp2
    go_ret
    exact ⟨fun h => absurd h HE.out, fun _ => ⟨rfl, HD1.out⟩⟩
set_option maxHeartbeats 1000000 in
theorem fault_any (p : Nat) (a : Option Addr) (cap : Nat) (l : List UInt8) (i f q : Int) (w : World) (h : Rr w p a cap l i f q) :
    Calls Tryd.prog 69 #[.pointer (some ⟨p, 0, none⟩)] w fun e w' => e = .returned (.tuple #[.int .i64 f, .int .i64 q]) ∧ ∃ n, w' = w.drewN n := by
  obtain ⟨h0, h1, h2, h3, f1, f2, f3, hrd, _⟩ := h
  clear hrd
  go_enter Tryd.func69, Tryd.ntmps69
  go_wp2_with fail
  go_quiet (fail)
  go_wp2
  go_ret2
  exact ⟨rfl, _, rfl⟩
end Go.Proofs.YtecgjhjglklcnaaDoor
