/-
  The walks of the reader: Text, End.
-/
import Derived.Test.YtecgjhjglklcnaaDoorX11
namespace Go.Proofs.YtecgjhjglklcnaaDoor
set_option maxRecDepth 100000
open Go.RowKit Go.Shelf Go.Sort
attribute [local go_sem] bs_size bs_get bs_toList frombits tobits run_store_float
def tE (l : List UInt8) (i : Nat) : Int := if cE l i 64 2 ≠ 0 then cE l i 64 2 else if l.length - cN l i < (rdN (l.drop i)).toNat then 5 else 0
def tP (l : List UInt8) (i : Nat) : Int := if cE l i 64 2 ≠ 0 then cP l i else (l.length : Int)
def tS (l : List UInt8) (i : Nat) : List UInt8 := (l.drop (cN l i)).take (rdN (l.drop i)).toNat
def tN (l : List UInt8) (i : Nat) : Nat := cN l i + (rdN (l.drop i)).toNat
/-- What Text does. -/
def TxPost (w : World) (p : Nat) (a : Option Addr) (cap : Nat) (l : List UInt8) (i : Nat) (q : Int) (e : Ending) (w' : World) : Prop :=
  (tE l i = 0 → e = .returned (.string (bs (tS l i))) ∧ RDone w p a cap l (tN l i) 0 q w') ∧
  (tE l i ≠ 0 → e = .returned (.string (bs [])) ∧ RDone w p a cap l i (tE l i) (tP l i) w')
theorem cE_bd {l : List UInt8} {i : Nat} {most ab : Int} (hab : ab ≠ 0) (h : cE l i most ab = 0) : rdE (l.drop i) = 0 ∧ 0 ≤ rdN (l.drop i) ∧ rdN (l.drop i) ≤ most := by
  unfold cE at h
  by_cases h0 : rdE (l.drop i) = 0
  · rw [if_neg (by simp [h0])] at h
    split at h
    · cases h
    · split at h
      · exact absurd h hab
      · exact ⟨h0, by omega, by omega⟩
  · rw [if_pos h0] at h; exact absurd h h0
set_option maxHeartbeats 4000000 in
theorem text_any (i : Nat) (p : Nat) (a : Option Addr) (cap : Nat) (l : List UInt8) (hl : l.length ≤ 1000000) (hi : i ≤ l.length) (q : Int) (w : World) (h : Rr w p a cap l i 0 q) :
    Calls Tryd.prog 68 #[.pointer (some ⟨p, 0, none⟩), .int .i64 64] w (TxPost w p a cap l i q) := by
  have HR := Lib.hid h
  have HC : Hid (∀ W, Rr W p a cap l i 0 q → Calls Tryd.prog 96 #[.pointer (some ⟨p, 0, none⟩), .int .i64 64, .int .i64 2] W (CntPost W p a cap l i q 64 2)) := fun W h => count_any 64 2 rfl i p a cap l hl hi q W h
  obtain ⟨h0, h1, h2, h3, f1, f2, f3, hrd, _⟩ := h
  have hpl : p < w.heap.size := World.block_lt_of_cell? w _ h0
  clear hrd
  go_enter Tryd.func68, Tryd.ntmps68
  go_wp2_with fail
  go_at_call 96
  by_cases hE : cE l i 64 2 = 0
  · refine (HC.out _ HR.out).mono (fun e w1 hp => ?_)
    obtain ⟨rfl, hd1⟩ := hp.1 hE
    obtain ⟨hE0, hN0, hN1⟩ := cE_bd (by decide) hE
    have hcn := cN_le hi hE0
    have HE := Lib.hid hE
    have HD1 := Lib.hid hd1
    obtain ⟨g0, g1, g2, g3, k1, k2, k3, hrd1, hbn⟩ := hd1.1
    have HRD := Lib.hid hrd1
    have HBN := Lib.hid hbn
    have hp1 : p < w1.heap.size := World.block_lt_of_cell? w1 _ g0
    clear hd1 h0 h1 h2 h3 f1 f2 f3 hE hp hrd1 hbn hE0
    have HT0 : Hid (tE l i = if l.length - cN l i < (rdN (l.drop i)).toNat then 5 else 0) := by unfold tE; rw [HE.out]; exact if_neg (by simp)
    have HTP : Hid (tP l i = l.length) := by unfold tP; rw [HE.out]; exact if_neg (by simp)
    have HTS : Hid (tS l i = (l.drop (cN l i)).take (rdN (l.drop i)).toNat) := rfl
    have HTN : Hid (tN l i = cN l i + (rdN (l.drop i)).toNat) := rfl
    obtain ⟨c, hc⟩ : ∃ c, cN l i = c := ⟨_, rfl⟩
    obtain ⟨N, hN⟩ : ∃ N, rdN (l.drop i) = N := ⟨_, rfl⟩
    obtain ⟨n, hn⟩ : ∃ n, l.length = n := ⟨_, rfl⟩
    have HN := Lib.hid hn
    rw [hc] at hcn HT0 HTS HTN ⊢
    rw [hN] at hN0 hN1 HT0 HTS HTN ⊢
    rw [hn] at hl hi hcn HT0 HTP g0
    clear hc hN hn
    obtain ⟨M, rfl⟩ : ∃ M : Nat, N = (M : Int) := ⟨N.toNat, by omega⟩
    rw [Int.toNat_natCast] at HT0 HTS HTN
    by_cases hlt : n - c < M
    · have HT : Hid (tE l i = 5) := HT0.out.trans (if_pos hlt)
      have hd : decide ((n : Int) - (c : Int) < (M : Int)) = true := decide_eq_true (by omega)
      clear hlt
      go_wp2_with (go_at_call 97; ((with_reducible refine (fail_any 5 _ rfl p _ _ _ _ _ _ HD1.out.rr).mono ?_); rintro e w' ⟨rfl, hdn⟩; have HD := Lib.hid hdn; clear hdn))
      go_ret
      exact ⟨fun h => absurd (HT.out.symm.trans h) (by decide), fun _ => ⟨rfl, by rw [HT.out, HTP.out]; exact RDone.next HD1.out.2 HD.out⟩⟩
    · have HT : Hid (tE l i = 0) := HT0.out.trans (if_neg hlt)
      have hd : decide ((n : Int) - (c : Int) < (M : Int)) = false := decide_eq_false (by omega)
      have HW2 := Lib.hid (HD1.out.setAt ((c : Int) + (M : Int)))
      have hcm : c + M ≤ n := by omega
      clear hlt
      go_wp2_with fail
      clear g0 g1 g2 g3 k1 k2 k3 hp1
      generalize w1.setCell ⟨p, 1, none⟩ (.int .i64 ((c : Int) + (M : Int))) = W2 at *
      obtain ⟨m0, m1, m2, m3, j1, j2, j3, hr, _⟩ := HW2.out.1
      obtain ⟨ad, cap', hsl, hr2⟩ := run_slice8 (P := Tryd.prog) S8 hr (some (.int .i64 (c : Int))) (some (.int .i64 ((c : Int) + (M : Int)))) c (c + M) (.inr rfl) (.inr (by rw [Int.natCast_add])) (by omega) (by rw [HN.out]; omega)
      rw [show c + M - c = M by omega] at hsl hr2
      rw [← HTS.out] at hr2
      have hcv : ∀ nd, (convert 44 9 (.slice ad M cap')).run Tryd.prog (W2.drewN nd) = .ok (.string (bs (tS l i))) (W2.drewN nd) := fun nd =>
        run_toStr (P := Tryd.prog) (hr2.below (below_drewN (Below.refl _ _) nd)) 44 5 9 Tryd.underlying44 Tryd.underlying5 Tryd.underlying9
      have hcv1 := hcv 1
      rw [HN.out] at hsl m0
      clear hr hr2 HRD
      go_quiet (fail)
      go_wp2
      go_ret
      exact ⟨fun _ => ⟨rfl, by rw [HTN.out]; exact HW2.out.drewN _⟩, fun h => absurd HT.out h⟩
  · refine (HC.out _ HR.out).mono (fun e w1 hp => ?_)
    obtain ⟨rfl, hd1⟩ := hp.2 hE
    have HE := Lib.hid hE
    have HD1 := Lib.hid hd1
    have HT : Hid (tE l i = cE l i 64 2) := if_pos hE
    have HTP : Hid (tP l i = cP l i) := if_pos hE
    clear hd1 h0 h1 h2 h3 f1 f2 f3 hE hp
    go_wp2
    go_ret
    exact ⟨fun h => absurd (HT.out.symm.trans h) HE.out, fun _ => ⟨rfl, by rw [HT.out, HTP.out]; exact HD1.out⟩⟩
set_option maxHeartbeats 1000000 in
theorem end_any (p : Nat) (a : Option Addr) (cap : Nat) (l : List UInt8) (_hl : l.length ≤ 1000000) (i : Nat) (f q : Int) (w : World) (h : Rr w p a cap l i f q) (hq : f = 0 → q = 0) :
    Calls Tryd.prog 41 #[.pointer (some ⟨p, 0, none⟩)] w fun e w' => e = .returned (if f = 0 ∧ i < l.length then .tuple #[.int .i64 6, .int .i64 i] else .tuple #[.int .i64 f, .int .i64 q]) ∧ Below w.heap.size w w' := by
  have HR := Lib.hid h
  obtain ⟨h0, h1, h2, h3, f1, f2, f3, hrd, _⟩ := h
  clear hrd
  by_cases hf : f = 0
  · subst hf
    obtain rfl := hq rfl
    clear hq
    by_cases hi : i < l.length
    · rw [if_pos ⟨rfl, hi⟩]
      have hd : decide ((i : Int) < (l.length : Int)) = true := decide_eq_true (by omega)
      go_enter Tryd.func41, Tryd.ntmps41
      go_wp2_with fail
      go_quiet (fail)
      go_wp2_with fail
      go_quiet (fail)
      go_wp2
      go_ret2
      exact ⟨rfl, by first | exact below_drewN (Below.refl _ _) _ | exact below_drewN (below_drewN (Below.refl _ _) _) _⟩
    · rw [if_neg (fun h => hi h.2)]
      have hd : decide ((i : Int) < (l.length : Int)) = false := decide_eq_false (by omega)
      go_enter Tryd.func41, Tryd.ntmps41
      go_wp2_with fail
      go_quiet (fail)
      go_wp2_with (go_at_call 69; ((with_reducible refine (fault_any p _ _ _ _ _ _ _ (HRD0 HR.out _)).mono ?_); rintro e w' ⟨rfl, nd, rfl⟩))
      go_ret2
      exact ⟨rfl, by first | exact below_drewN (Below.refl _ _) _ | exact below_drewN (below_drewN (Below.refl _ _) _) _⟩
  · clear hq
    rw [if_neg (fun h => hf h.1)]
    have hd : (f == 0) = false := beq_eq_false_iff_ne.2 hf
    go_enter Tryd.func41, Tryd.ntmps41
    go_wp2_with fail
    go_quiet (fail)
    go_wp2_with (go_at_call 69; ((with_reducible refine (fault_any p _ _ _ _ _ _ _ (HRD0 HR.out _)).mono ?_); rintro e w' ⟨rfl, nd, rfl⟩))
    go_ret2
    exact ⟨rfl, by first | exact below_drewN (Below.refl _ _) _ | exact below_drewN (below_drewN (Below.refl _ _) _) _⟩
end Go.Proofs.YtecgjhjglklcnaaDoor
