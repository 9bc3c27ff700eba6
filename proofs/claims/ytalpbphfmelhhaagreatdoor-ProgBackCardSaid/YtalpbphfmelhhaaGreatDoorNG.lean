/-
  The walk of the reference's Parse behind its five words, by the signs. Written by a program (e23.py).
  The walk of the reference's Parse behind its five words, by the signs. Written by a program (e23.py).
  The walk of the reference's Parse behind its five words, by the signs. Written by a program (e23.py).
  The walk of the reference's Parse behind its five words, by the signs. Written by a program (e23.py).
  The walk of the reference's Parse behind its five words, by the signs. Written by a program (e23.py).
  The walk of the reference's Parse behind its five words, by the signs. Written by a program (e23.py).
  The walk of the reference's Parse behind its five words, by the signs. Written by a program (e23.py).
  The walk of the reference's Parse behind its five words, by the signs. Written by a program (e23.py).
  The walk of the reference's Parse behind its five words, by the signs. Written by a program (e23.py).
  The reference's Parse of any text: put together.
  What the chapter's examples fix: 'first' returns true.
-/
import Derived.Test.YtalpbphfmelhhaaGreatDoorNF
/-! ### The walk of the reference's Parse behind its five words, by the signs. Written by a program (e23.py). -/
namespace Go.Proofs.YtalpbphfmelhhaaGreatDoor
set_option maxRecDepth 100000
open Go.RowKit Go.Shelf Go.Sort
attribute [local go_sem] bs_size bs_get bs_toList neg_run

/-- What the reference's Parse tells. -/
def ToldB (w : World) (r : UInt64 × Int) (e : Ending) (w' : World) : Prop := e = .returned (.tuple #[.float .f64 (fb r.1), .int .i64 r.2]) ∧ Below w.heap.size w w'
end Go.Proofs.YtalpbphfmelhhaaGreatDoor

/-! ### The walk of the reference's Parse behind its five words, by the signs. Written by a program (e23.py). -/
namespace Go.Proofs.YtalpbphfmelhhaaGreatDoor
set_option maxRecDepth 100000
open Go.RowKit Go.Shelf Go.Sort
attribute [local go_sem] bs_size bs_get bs_toList neg_run
set_option maxRecDepth 100000 in
set_option maxHeartbeats 400000 in
theorem refParse_p_f1 (l : List UInt8) (n : Nat) (w : World) (L1 : (l == [110, 97, 110]) = false) (L2 : (l == [105, 110, 102]) = false) (L3 : (l == [45, 105, 110, 102]) = false) (L4 : (l == [48]) = false) (L5 : (l == [45, 48]) = false)
    (hl0 : 0 < l.length) (hsg : (((bAt l 0).toNat : Int) == 45) = false)
    (HDt : Hid (∀ W, Calls Tryz.prog 115 #[.string (bs l)] W fun e w' => e = .returned (.tuple #[.int .i64 (n : Int), .bool false]) ∧ w' = W)) :
    Calls Tryz.prog 92 #[.string (bs l)] w (ToldB w (0, 4)) := by
  have HR : Hid (True) := trivial
  go_enter Tryz.func92, Tryz.ntmps92
  go_wp2_with (first | (go_at_call 115; ((with_reducible refine (HDt.out _).mono ?_); rintro e w' ⟨rfl, rfl⟩)))
  go_ret2
  exact ⟨rfl, Below.refl _ _⟩
set_option maxRecDepth 100000 in
set_option maxHeartbeats 400000 in
theorem refParse_p_f2 (l : List UInt8) (n : Nat) (w : World) (L1 : (l == [110, 97, 110]) = false) (L2 : (l == [105, 110, 102]) = false) (L3 : (l == [45, 105, 110, 102]) = false) (L4 : (l == [48]) = false) (L5 : (l == [45, 48]) = false)
    (hl0 : 0 < l.length) (hsg : (((bAt l 0).toNat : Int) == 45) = false)
    (HDt : Hid (∀ W, Calls Tryz.prog 115 #[.string (bs l)] W fun e w' => e = .returned (.tuple #[.int .i64 (n : Int), .bool true]) ∧ w' = W))
    (h48 : (((bAt l 0).toNat : Int) == 48) = true) :
    Calls Tryz.prog 92 #[.string (bs l)] w (ToldB w (0, 4)) := by
  go_enter Tryz.func92, Tryz.ntmps92
  go_wp2_with (first | (go_at_call 115; ((with_reducible refine (HDt.out _).mono ?_); rintro e w' ⟨rfl, rfl⟩)))
  go_ret2
  exact ⟨rfl, Below.refl _ _⟩
set_option maxRecDepth 100000 in
set_option maxHeartbeats 400000 in
theorem refParse_p_f3 (l : List UInt8) (n : Nat) (w : World) (L1 : (l == [110, 97, 110]) = false) (L2 : (l == [105, 110, 102]) = false) (L3 : (l == [45, 105, 110, 102]) = false) (L4 : (l == [48]) = false) (L5 : (l == [45, 48]) = false)
    (hl0 : 0 < l.length) (hsg : (((bAt l 0).toNat : Int) == 45) = false)
    (HDt : Hid (∀ W, Calls Tryz.prog 115 #[.string (bs l)] W fun e w' => e = .returned (.tuple #[.int .i64 (n : Int), .bool true]) ∧ w' = W))
    (h48 : (((bAt l 0).toNat : Int) == 48) = false) (hn : ((n : Int) == (l.length : Int)) = true) :
    Calls Tryz.prog 92 #[.string (bs l)] w (ToldB w (0, 4)) := by
  go_enter Tryz.func92, Tryz.ntmps92
  go_wp2_with (first | (go_at_call 115; ((with_reducible refine (HDt.out _).mono ?_); rintro e w' ⟨rfl, rfl⟩)))
  go_ret2
  exact ⟨rfl, Below.refl _ _⟩
set_option maxRecDepth 100000 in
set_option maxHeartbeats 400000 in
theorem refParse_p_f4 (l : List UInt8) (n : Nat) (w : World) (L1 : (l == [110, 97, 110]) = false) (L2 : (l == [105, 110, 102]) = false) (L3 : (l == [45, 105, 110, 102]) = false) (L4 : (l == [48]) = false) (L5 : (l == [45, 48]) = false)
    (hl0 : 0 < l.length) (hsg : (((bAt l 0).toNat : Int) == 45) = false)
    (HDt : Hid (∀ W, Calls Tryz.prog 115 #[.string (bs l)] W fun e w' => e = .returned (.tuple #[.int .i64 (n : Int), .bool true]) ∧ w' = W))
    (h48 : (((bAt l 0).toNat : Int) == 48) = false) (hn : ((n : Int) == (l.length : Int)) = false) (hnl : n < l.length) (hp : (((bAt l n).toNat : Int) != 112) = true) :
    Calls Tryz.prog 92 #[.string (bs l)] w (ToldB w (0, 4)) := by
  go_enter Tryz.func92, Tryz.ntmps92
  go_wp2_with (first | (go_at_call 115; ((with_reducible refine (HDt.out _).mono ?_); rintro e w' ⟨rfl, rfl⟩)))
  go_ret2
  exact ⟨rfl, Below.refl _ _⟩
end Go.Proofs.YtalpbphfmelhhaaGreatDoor

/-! ### The walk of the reference's Parse behind its five words, by the signs. Written by a program (e23.py). -/
namespace Go.Proofs.YtalpbphfmelhhaaGreatDoor
set_option maxRecDepth 100000
open Go.RowKit Go.Shelf Go.Sort
attribute [local go_sem] bs_size bs_get bs_toList neg_run
set_option maxRecDepth 100000 in
set_option maxHeartbeats 400000 in
theorem refParse_p_empty (l a : List UInt8) (n : Nat) (w : World) (L1 : (l == [110, 97, 110]) = false) (L2 : (l == [105, 110, 102]) = false) (L3 : (l == [45, 105, 110, 102]) = false) (L4 : (l == [48]) = false) (L5 : (l == [45, 48]) = false)
    (hl0 : 0 < l.length) (hsg : (((bAt l 0).toNat : Int) == 45) = false)
    (HDt : Hid (∀ W, Calls Tryz.prog 115 #[.string (bs l)] W fun e w' => e = .returned (.tuple #[.int .i64 (n : Int), .bool true]) ∧ w' = W))
    (h48 : (((bAt l 0).toNat : Int) == 48) = false) (hn : ((n : Int) == (l.length : Int)) = false) (hnl : n < l.length) (htl : l.length ≤ 4611686018427387904) (hp : (((bAt l n).toNat : Int) != 112) = false)
    (hsa : (bs l).extract 0 n = bs a) (hsb : (bs l).extract (n + 1) l.length = bs [])
    (_hal : Hid (a.length ≤ 4611686018427387904)) (da : digB a = true) (ea : (a == [48]) = false)
    (_HP : Hid (parseOf l = parseNum false a false [])) :
    Calls Tryz.prog 92 #[.string (bs l)] w (ToldB w (parseNum false a false [])) := by
  obtain ⟨R, HR0⟩ : ∃ R, Hid (R = parseNum false a false []) := ⟨_, rfl⟩
  rw [← HR0.out]
  have HDb : Hid (∀ W, Calls Tryz.prog 115 #[.string (bs [])] W fun e w' => e = .returned (.tuple #[.int .i64 0, .bool false]) ∧ w' = W) := fun W => refDigits_any [] (by decide) W
  have HR : Hid (R = (0, 4)) := by rw [HR0.out]; unfold parseNum; rw [da, ea]; exact rfl
  clear da _HP HR0
  go_enter Tryz.func92, Tryz.ntmps92
  go_wp2_with (first | (go_at_call 115; ((with_reducible refine (HDt.out _).mono ?_); rintro e w' ⟨rfl, rfl⟩)) | (go_at_call 115; ((with_reducible refine (HDb.out _).mono ?_); rintro e w' ⟨rfl, rfl⟩)))
  go_ret2
  exact ⟨by rw [HR.out]; rfl, Below.refl _ _⟩
end Go.Proofs.YtalpbphfmelhhaaGreatDoor

/-! ### The walk of the reference's Parse behind its five words, by the signs. Written by a program (e23.py). -/
namespace Go.Proofs.YtalpbphfmelhhaaGreatDoor
set_option maxRecDepth 100000
open Go.RowKit Go.Shelf Go.Sort
attribute [local go_sem] bs_size bs_get bs_toList neg_run
set_option maxRecDepth 100000 in
set_option maxHeartbeats 400000 in
theorem refParse_p_down (l a b0 b : List UInt8) (n : Nat) (w : World) (L1 : (l == [110, 97, 110]) = false) (L2 : (l == [105, 110, 102]) = false) (L3 : (l == [45, 105, 110, 102]) = false) (L4 : (l == [48]) = false) (L5 : (l == [45, 48]) = false)
    (hl0 : 0 < l.length) (hsg : (((bAt l 0).toNat : Int) == 45) = false)
    (HDt : Hid (∀ W, Calls Tryz.prog 115 #[.string (bs l)] W fun e w' => e = .returned (.tuple #[.int .i64 (n : Int), .bool true]) ∧ w' = W))
    (h48 : (((bAt l 0).toNat : Int) == 48) = false) (hn : ((n : Int) == (l.length : Int)) = false) (hnl : n < l.length) (htl : l.length ≤ 4611686018427387904) (hp : (((bAt l n).toNat : Int) != 112) = false)
    (hsa : (bs l).extract 0 n = bs a) (hsb : (bs l).extract (n + 1) l.length = bs b0)
    (hb0 : 0 < b0.length) (hbs : (((bAt b0 0).toNat : Int) == 45) = true) (hbx : (bs b0).extract 1 b0.length = bs b)    (_hal : Hid (a.length ≤ 4611686018427387904)) (hbl : Hid (b.length ≤ 4611686018427387904)) (da : digB a = true) (ea : (a == [48]) = false)
    (HP : Hid (parseOf l = parseNum false a true b)) :
    Calls Tryz.prog 92 #[.string (bs l)] w (ToldB w (parseNum false a true b)) := by
  obtain ⟨R, HR0⟩ : ∃ R, Hid (R = parseNum false a true b) := ⟨_, rfl⟩
  rw [← HR0.out]
  have HF : Hid (digB b = (leadOk b && decide (leadN b = b.length))) := digB_lead b
  cases dk : leadOk b with
  | false =>
    have HR : Hid (R = (0, 4)) := by rw [HR0.out]; unfold parseNum; rw [da, ea, HF.out, dk]; exact rfl
    have HDb : Hid (∀ W, Calls Tryz.prog 115 #[.string (bs b)] W fun e w' => e = .returned (.tuple #[.int .i64 (leadN b : Int), .bool false]) ∧ w' = W) := fun W => by rw [← dk]; exact refDigits_any _ hbl.out W
    clear da HP HR0 dk HF
    generalize leadN b = k at *
    go_enter Tryz.func92, Tryz.ntmps92
    go_wp2_with (first | (go_at_call 115; ((with_reducible refine (HDt.out _).mono ?_); rintro e w' ⟨rfl, rfl⟩)) | (go_at_call 115; ((with_reducible refine (HDb.out _).mono ?_); rintro e w' ⟨rfl, rfl⟩)))
    go_ret2
    exact ⟨by rw [HR.out]; rfl, Below.refl _ _⟩
  | true =>
  have HDb : Hid (∀ W, Calls Tryz.prog 115 #[.string (bs b)] W fun e w' => e = .returned (.tuple #[.int .i64 (leadN b : Int), .bool true]) ∧ w' = W) := fun W => by rw [← dk]; exact refDigits_any _ hbl.out W
  by_cases hk : leadN b = b.length
  case neg =>
    have HR : Hid (R = (0, 4)) := by rw [HR0.out]; unfold parseNum; rw [da, ea, HF.out, dk, decide_eq_false hk]; exact rfl
    have hk1 : ((leadN b : Int) != (b.length : Int)) = true := bne_iff_ne.2 (by omega)
    clear da HP HR0 dk HF hk
    generalize leadN b = k at *
    go_enter Tryz.func92, Tryz.ntmps92
    go_wp2_with (first | (go_at_call 115; ((with_reducible refine (HDt.out _).mono ?_); rintro e w' ⟨rfl, rfl⟩)) | (go_at_call 115; ((with_reducible refine (HDb.out _).mono ?_); rintro e w' ⟨rfl, rfl⟩)))
    go_ret2
    exact ⟨by rw [HR.out]; rfl, Below.refl _ _⟩
  have hk1 : ((leadN b : Int) != (b.length : Int)) = false := by rw [hk]; exact bne_self_eq_false' _
  have db : digB b = true := by rw [HF.out, dk, decide_eq_true hk]; rfl
  clear dk HF hk
  generalize leadN b = k at *
  cases eb : (b == [48]) with
  | true =>
    have HR : Hid (R = (0, 4)) := by rw [HR0.out]; unfold parseNum; rw [da, ea, db, eb]; exact rfl
    clear da HP HR0 db
    go_enter Tryz.func92, Tryz.ntmps92
    go_wp2_with (first | (go_at_call 115; ((with_reducible refine (HDt.out _).mono ?_); rintro e w' ⟨rfl, rfl⟩)) | (go_at_call 115; ((with_reducible refine (HDb.out _).mono ?_); rintro e w' ⟨rfl, rfl⟩)))
    go_ret2
    exact ⟨by rw [HR.out]; rfl, Below.refl _ _⟩
  | false =>
  have HN : Hid ((!digB a || (a == [48]) || !digB b || (true && (b == [48]))) = false) := by rw [da, ea, db, eb]; exact rfl
  by_cases ha : 17 < a.length
  · have HR : Hid (R = (0, 1)) := by rw [HR0.out]; unfold parseNum; rw [HN.out, if_neg (by decide), if_pos (Or.inl (by omega))]; exact rfl
    clear da HP HR0 db HN
    go_enter Tryz.func92, Tryz.ntmps92
    go_wp2_with (first | (go_at_call 115; ((with_reducible refine (HDt.out _).mono ?_); rintro e w' ⟨rfl, rfl⟩)) | (go_at_call 115; ((with_reducible refine (HDb.out _).mono ?_); rintro e w' ⟨rfl, rfl⟩)))
    go_ret2
    exact ⟨by rw [HR.out]; rfl, Below.refl _ _⟩
  by_cases hb : 5 < b.length
  · have HR : Hid (R = (0, 1)) := by rw [HR0.out]; unfold parseNum; rw [HN.out, if_neg (by decide), if_pos (Or.inr (Or.inl hb))]; exact rfl
    clear da HP HR0 db HN
    go_enter Tryz.func92, Tryz.ntmps92
    go_wp2_with (first | (go_at_call 115; ((with_reducible refine (HDt.out _).mono ?_); rintro e w' ⟨rfl, rfl⟩)) | (go_at_call 115; ((with_reducible refine (HDb.out _).mono ?_); rintro e w' ⟨rfl, rfl⟩)))
    go_ret2
    exact ⟨by rw [HR.out]; rfl, Below.refl _ _⟩
  have HNa : Hid (∀ W, Calls Tryz.prog 116 #[.string (bs a)] W fun e w' => e = .returned (.int .i64 ((dv a : Nat) : Int)) ∧ w' = W) := fun W => number_any a (by omega) (dig_all da) W
  have HNb : Hid (∀ W, Calls Tryz.prog 116 #[.string (bs b)] W fun e w' => e = .returned (.int .i64 ((dv b : Nat) : Int)) ∧ w' = W) := fun W => number_any b (by omega) (dig_all db) W
  have hpb := dv_bd db
  have hpb2 : 10 ^ b.length ≤ 10 ^ 5 := Nat.pow_le_pow_right (by decide) (by omega)
  have hpb3 : dv b < 100000 := Nat.lt_of_lt_of_le hpb hpb2
  have hp0 : (0 : Int) ≤ ((dv b : Nat) : Int) := by omega
  have hp1 : ((dv b : Nat) : Int) ≤ 100000 := by omega
  have hm0 : (0 : Int) ≤ ((dv a : Nat) : Int) := by omega
  clear hpb hpb2
  have HER := parseNum_err false a true b
  rw [← HR0.out] at HER
  have HBAD : Hid (R.2 ≠ 0 → ∀ x, printOf x ≠ l) := fun h x => no_print (by rw [HP.out, ← HR0.out]; exact h) x
  have HOK : Hid (R.2 = 0 → printOf R.1 = l) := fun h => print_parse (by rw [HP.out, ← HR0.out, ← h])
  by_cases hr0 : R.2 = 0
  case neg =>
    have HR : Hid (R = (0, 1)) := by
      rcases HER with h | h | h
      · exact absurd h hr0
      · exact h
      · exfalso
        rw [h] at HR0
        exact parseNum_not4 HN.out HR0.out.symm
    have HB := HBAD.out hr0
    obtain ⟨Y, hcv⟩ := conv_any (dv a)
    have HL := fun W => Ldexp_any Y (-((dv b : Nat) : Int)) (by omega) W
    clear HER HBAD HOK hr0 HN HP HR0 da db hpb3
    have HB := Lib.hid HB
    have HL := Lib.hid HL
    generalize ((dv a : Nat) : Int) = m at *
    generalize ((dv b : Nat) : Int) = p at *
    go_enter Tryz.func92, Tryz.ntmps92
    go_wp2_with (first | (go_at_call 115; ((with_reducible refine (HDt.out _).mono ?_); rintro e w' ⟨rfl, rfl⟩)) | (go_at_call 115; ((with_reducible refine (HDb.out _).mono ?_); rintro e w' ⟨rfl, rfl⟩)) | (go_at_call 116; ((with_reducible refine (HNa.out _).mono ?_); rintro e w' ⟨rfl, rfl⟩)) | (go_at_call 116; ((with_reducible refine (HNb.out _).mono ?_); rintro e w' ⟨rfl, rfl⟩)) | (go_at_call 117; ((with_reducible refine (HL.out _).mono ?_); rintro e w' ⟨r, nd, rfl, rfl⟩)))
    go_at_call 96
    refine (refPrint_any _ _).mono ?_
    rintro e w' ⟨rfl, hbl2⟩
    have hq : (printOf (sgn false r) == l) = false := beq_eq_false_iff_ne.2 (HB.out _)
    have hq2 : (printOf (sgn false r) != l) = true := bne_iff_ne.2 (HB.out _)
    have es : r = sgn false r := rfl
    have hq : (printOf r == l) = false := hq; have hq2 : (printOf r != l) = true := hq2
    clear es
    generalize printOf _ = P at *
    go_wp2
    go_ret2
    exact ⟨by rw [HR.out]; rfl, Below.trans (below_drewN (Below.refl _ _) nd) hbl2⟩
  have hz : parseNum false a true b = (R.1, 0) := by rw [← HR0.out, ← hr0]
  obtain ⟨m0, e0, hI, ho, ha2, hb2, hz2⟩ := parseNum_ok hz
  have hdm : dv a = m0 := by rw [ha2, dv_dd]
  have hde : -((dv b : Nat) : Int) = e0 := itoa_back db hb2
  have hpr := HOK.out hr0
  have HR : Hid (R = (sgn false (ldW m0 e0), 0)) := Prod.ext hz2 hr0
  rw [HR.out] at hpr
  have hcv : floatOfInt .f64 ((dv a : Nat) : Int) = fb (fOf m0) := by rw [hdm]; exact conv_nat m0 hI.ne hI.lt
  have HLd : Hid (∀ W, Calls Tryz.prog 117 #[.float .f64 (fb (fOf m0)), .int .i64 (-((dv b : Nat) : Int))] W fun v w' => v = .returned (.float .f64 (fb (ldW m0 e0))) ∧ w' = W) := fun W => by rw [hde]; exact Ldexp_fits m0 e0 hI W
  have hq : (printOf (sgn false (ldW m0 e0)) == l) = true := beq_iff_eq.2 hpr
  have hq2 : (printOf (sgn false (ldW m0 e0)) != l) = false := by rw [bne, hq]; rfl
  have HPr : Hid (∀ W, Calls Tryz.prog 96 #[.float .f64 (fb (sgn false (ldW m0 e0)))] W fun e w' => e = .returned (.string (bs (printOf (sgn false (ldW m0 e0))))) ∧ Below W.heap.size W w') := fun W => refPrint_any _ W
  clear HER HBAD HOK hr0 HN HP HR0 da db hpb3 hz hI ho ha2 hb2 hz2 hdm hde hpr
  generalize printOf (sgn false (ldW m0 e0)) = P at *
  have e1 : sgn false (ldW m0 e0) = ldW m0 e0 := rfl
  rw [e1] at HR HPr
  clear e1
  generalize ldW m0 e0 = X at *
  generalize fOf m0 = Y at *
  generalize ((dv a : Nat) : Int) = m at *
  generalize ((dv b : Nat) : Int) = p at *
  go_enter Tryz.func92, Tryz.ntmps92
  go_wp2_with (first | (go_at_call 115; ((with_reducible refine (HDt.out _).mono ?_); rintro e w' ⟨rfl, rfl⟩)) | (go_at_call 115; ((with_reducible refine (HDb.out _).mono ?_); rintro e w' ⟨rfl, rfl⟩)) | (go_at_call 116; ((with_reducible refine (HNa.out _).mono ?_); rintro e w' ⟨rfl, rfl⟩)) | (go_at_call 116; ((with_reducible refine (HNb.out _).mono ?_); rintro e w' ⟨rfl, rfl⟩)) | (go_at_call 117; ((with_reducible refine (HLd.out _).mono ?_); rintro e w' ⟨rfl, rfl⟩)) | (go_at_call 96; ((with_reducible refine (HPr.out _).mono ?_); rintro e w' ⟨rfl, hbl2⟩)))
  go_ret2
  exact ⟨by rw [HR.out]; rfl, hbl2⟩
end Go.Proofs.YtalpbphfmelhhaaGreatDoor

/-! ### The walk of the reference's Parse behind its five words, by the signs. Written by a program (e23.py). -/
namespace Go.Proofs.YtalpbphfmelhhaaGreatDoor
set_option maxRecDepth 100000
open Go.RowKit Go.Shelf Go.Sort
attribute [local go_sem] bs_size bs_get bs_toList neg_run
set_option maxRecDepth 100000 in
set_option maxHeartbeats 400000 in
theorem refParse_p_plain (l a b0 : List UInt8) (n : Nat) (w : World) (L1 : (l == [110, 97, 110]) = false) (L2 : (l == [105, 110, 102]) = false) (L3 : (l == [45, 105, 110, 102]) = false) (L4 : (l == [48]) = false) (L5 : (l == [45, 48]) = false)
    (hl0 : 0 < l.length) (hsg : (((bAt l 0).toNat : Int) == 45) = false)
    (HDt : Hid (∀ W, Calls Tryz.prog 115 #[.string (bs l)] W fun e w' => e = .returned (.tuple #[.int .i64 (n : Int), .bool true]) ∧ w' = W))
    (h48 : (((bAt l 0).toNat : Int) == 48) = false) (hn : ((n : Int) == (l.length : Int)) = false) (hnl : n < l.length) (htl : l.length ≤ 4611686018427387904) (hp : (((bAt l n).toNat : Int) != 112) = false)
    (hsa : (bs l).extract 0 n = bs a) (hsb : (bs l).extract (n + 1) l.length = bs b0)
    (hb0 : 0 < b0.length) (hbs : (((bAt b0 0).toNat : Int) == 45) = false)    (_hal : Hid (a.length ≤ 4611686018427387904)) (hbl : Hid (b0.length ≤ 4611686018427387904)) (da : digB a = true) (ea : (a == [48]) = false)
    (HP : Hid (parseOf l = parseNum false a false b0)) :
    Calls Tryz.prog 92 #[.string (bs l)] w (ToldB w (parseNum false a false b0)) := by
  obtain ⟨R, HR0⟩ : ∃ R, Hid (R = parseNum false a false b0) := ⟨_, rfl⟩
  rw [← HR0.out]
  have HF : Hid (digB b0 = (leadOk b0 && decide (leadN b0 = b0.length))) := digB_lead b0
  cases dk : leadOk b0 with
  | false =>
    have HR : Hid (R = (0, 4)) := by rw [HR0.out]; unfold parseNum; rw [da, ea, HF.out, dk]; exact rfl
    have HDb : Hid (∀ W, Calls Tryz.prog 115 #[.string (bs b0)] W fun e w' => e = .returned (.tuple #[.int .i64 (leadN b0 : Int), .bool false]) ∧ w' = W) := fun W => by rw [← dk]; exact refDigits_any _ hbl.out W
    clear da HP HR0 dk HF
    generalize leadN b0 = k at *
    go_enter Tryz.func92, Tryz.ntmps92
    go_wp2_with (first | (go_at_call 115; ((with_reducible refine (HDt.out _).mono ?_); rintro e w' ⟨rfl, rfl⟩)) | (go_at_call 115; ((with_reducible refine (HDb.out _).mono ?_); rintro e w' ⟨rfl, rfl⟩)))
    go_ret2
    exact ⟨by rw [HR.out]; rfl, Below.refl _ _⟩
  | true =>
  have HDb : Hid (∀ W, Calls Tryz.prog 115 #[.string (bs b0)] W fun e w' => e = .returned (.tuple #[.int .i64 (leadN b0 : Int), .bool true]) ∧ w' = W) := fun W => by rw [← dk]; exact refDigits_any _ hbl.out W
  by_cases hk : leadN b0 = b0.length
  case neg =>
    have HR : Hid (R = (0, 4)) := by rw [HR0.out]; unfold parseNum; rw [da, ea, HF.out, dk, decide_eq_false hk]; exact rfl
    have hk1 : ((leadN b0 : Int) != (b0.length : Int)) = true := bne_iff_ne.2 (by omega)
    clear da HP HR0 dk HF hk
    generalize leadN b0 = k at *
    go_enter Tryz.func92, Tryz.ntmps92
    go_wp2_with (first | (go_at_call 115; ((with_reducible refine (HDt.out _).mono ?_); rintro e w' ⟨rfl, rfl⟩)) | (go_at_call 115; ((with_reducible refine (HDb.out _).mono ?_); rintro e w' ⟨rfl, rfl⟩)))
    go_ret2
    exact ⟨by rw [HR.out]; rfl, Below.refl _ _⟩
  have hk1 : ((leadN b0 : Int) != (b0.length : Int)) = false := by rw [hk]; exact bne_self_eq_false' _
  have db : digB b0 = true := by rw [HF.out, dk, decide_eq_true hk]; rfl
  clear dk HF hk
  generalize leadN b0 = k at *
  have HN : Hid ((!digB a || (a == [48]) || !digB b0 || (false && (b0 == [48]))) = false) := by rw [da, ea, db]; exact rfl
  by_cases ha : 17 < a.length
  · have HR : Hid (R = (0, 1)) := by rw [HR0.out]; unfold parseNum; rw [HN.out, if_neg (by decide), if_pos (Or.inl (by omega))]; exact rfl
    clear da HP HR0 db HN
    go_enter Tryz.func92, Tryz.ntmps92
    go_wp2_with (first | (go_at_call 115; ((with_reducible refine (HDt.out _).mono ?_); rintro e w' ⟨rfl, rfl⟩)) | (go_at_call 115; ((with_reducible refine (HDb.out _).mono ?_); rintro e w' ⟨rfl, rfl⟩)))
    go_ret2
    exact ⟨by rw [HR.out]; rfl, Below.refl _ _⟩
  by_cases hb : 5 < b0.length
  · have HR : Hid (R = (0, 1)) := by rw [HR0.out]; unfold parseNum; rw [HN.out, if_neg (by decide), if_pos (Or.inr (Or.inl hb))]; exact rfl
    clear da HP HR0 db HN
    go_enter Tryz.func92, Tryz.ntmps92
    go_wp2_with (first | (go_at_call 115; ((with_reducible refine (HDt.out _).mono ?_); rintro e w' ⟨rfl, rfl⟩)) | (go_at_call 115; ((with_reducible refine (HDb.out _).mono ?_); rintro e w' ⟨rfl, rfl⟩)))
    go_ret2
    exact ⟨by rw [HR.out]; rfl, Below.refl _ _⟩
  have HNa : Hid (∀ W, Calls Tryz.prog 116 #[.string (bs a)] W fun e w' => e = .returned (.int .i64 ((dv a : Nat) : Int)) ∧ w' = W) := fun W => number_any a (by omega) (dig_all da) W
  have HNb : Hid (∀ W, Calls Tryz.prog 116 #[.string (bs b0)] W fun e w' => e = .returned (.int .i64 ((dv b0 : Nat) : Int)) ∧ w' = W) := fun W => number_any b0 (by omega) (dig_all db) W
  have hpb := dv_bd db
  have hpb2 : 10 ^ b0.length ≤ 10 ^ 5 := Nat.pow_le_pow_right (by decide) (by omega)
  have hpb3 : dv b0 < 100000 := Nat.lt_of_lt_of_le hpb hpb2
  have hp0 : (0 : Int) ≤ ((dv b0 : Nat) : Int) := by omega
  have hp1 : ((dv b0 : Nat) : Int) ≤ 100000 := by omega
  have hm0 : (0 : Int) ≤ ((dv a : Nat) : Int) := by omega
  clear hpb hpb2
  have HER := parseNum_err false a false b0
  rw [← HR0.out] at HER
  have HBAD : Hid (R.2 ≠ 0 → ∀ x, printOf x ≠ l) := fun h x => no_print (by rw [HP.out, ← HR0.out]; exact h) x
  have HOK : Hid (R.2 = 0 → printOf R.1 = l) := fun h => print_parse (by rw [HP.out, ← HR0.out, ← h])
  by_cases hr0 : R.2 = 0
  case neg =>
    have HR : Hid (R = (0, 1)) := by
      rcases HER with h | h | h
      · exact absurd h hr0
      · exact h
      · exfalso
        rw [h] at HR0
        exact parseNum_not4 HN.out HR0.out.symm
    have HB := HBAD.out hr0
    obtain ⟨Y, hcv⟩ := conv_any (dv a)
    have HL := fun W => Ldexp_any Y (((dv b0 : Nat) : Int)) (by omega) W
    clear HER HBAD HOK hr0 HN HP HR0 da db hpb3
    have HB := Lib.hid HB
    have HL := Lib.hid HL
    generalize ((dv a : Nat) : Int) = m at *
    generalize ((dv b0 : Nat) : Int) = p at *
    go_enter Tryz.func92, Tryz.ntmps92
    go_wp2_with (first | (go_at_call 115; ((with_reducible refine (HDt.out _).mono ?_); rintro e w' ⟨rfl, rfl⟩)) | (go_at_call 115; ((with_reducible refine (HDb.out _).mono ?_); rintro e w' ⟨rfl, rfl⟩)) | (go_at_call 116; ((with_reducible refine (HNa.out _).mono ?_); rintro e w' ⟨rfl, rfl⟩)) | (go_at_call 116; ((with_reducible refine (HNb.out _).mono ?_); rintro e w' ⟨rfl, rfl⟩)) | (go_at_call 117; ((with_reducible refine (HL.out _).mono ?_); rintro e w' ⟨r, nd, rfl, rfl⟩)))
    go_at_call 96
    refine (refPrint_any _ _).mono ?_
    rintro e w' ⟨rfl, hbl2⟩
    have hq : (printOf (sgn false r) == l) = false := beq_eq_false_iff_ne.2 (HB.out _)
    have hq2 : (printOf (sgn false r) != l) = true := bne_iff_ne.2 (HB.out _)
    have es : r = sgn false r := rfl
    have hq : (printOf r == l) = false := hq; have hq2 : (printOf r != l) = true := hq2
    clear es
    generalize printOf _ = P at *
    go_wp2
    go_ret2
    exact ⟨by rw [HR.out]; rfl, Below.trans (below_drewN (Below.refl _ _) nd) hbl2⟩
  have hz : parseNum false a false b0 = (R.1, 0) := by rw [← HR0.out, ← hr0]
  obtain ⟨m0, e0, hI, ho, ha2, hb2, hz2⟩ := parseNum_ok hz
  have hdm : dv a = m0 := by rw [ha2, dv_dd]
  have hde : ((dv b0 : Nat) : Int) = e0 := itoa_back db hb2
  have hpr := HOK.out hr0
  have HR : Hid (R = (sgn false (ldW m0 e0), 0)) := Prod.ext hz2 hr0
  rw [HR.out] at hpr
  have hcv : floatOfInt .f64 ((dv a : Nat) : Int) = fb (fOf m0) := by rw [hdm]; exact conv_nat m0 hI.ne hI.lt
  have HLd : Hid (∀ W, Calls Tryz.prog 117 #[.float .f64 (fb (fOf m0)), .int .i64 (((dv b0 : Nat) : Int))] W fun v w' => v = .returned (.float .f64 (fb (ldW m0 e0))) ∧ w' = W) := fun W => by rw [hde]; exact Ldexp_fits m0 e0 hI W
  have hq : (printOf (sgn false (ldW m0 e0)) == l) = true := beq_iff_eq.2 hpr
  have hq2 : (printOf (sgn false (ldW m0 e0)) != l) = false := by rw [bne, hq]; rfl
  have HPr : Hid (∀ W, Calls Tryz.prog 96 #[.float .f64 (fb (sgn false (ldW m0 e0)))] W fun e w' => e = .returned (.string (bs (printOf (sgn false (ldW m0 e0))))) ∧ Below W.heap.size W w') := fun W => refPrint_any _ W
  clear HER HBAD HOK hr0 HN HP HR0 da db hpb3 hz hI ho ha2 hb2 hz2 hdm hde hpr
  generalize printOf (sgn false (ldW m0 e0)) = P at *
  have e1 : sgn false (ldW m0 e0) = ldW m0 e0 := rfl
  rw [e1] at HR HPr
  clear e1
  generalize ldW m0 e0 = X at *
  generalize fOf m0 = Y at *
  generalize ((dv a : Nat) : Int) = m at *
  generalize ((dv b0 : Nat) : Int) = p at *
  go_enter Tryz.func92, Tryz.ntmps92
  go_wp2_with (first | (go_at_call 115; ((with_reducible refine (HDt.out _).mono ?_); rintro e w' ⟨rfl, rfl⟩)) | (go_at_call 115; ((with_reducible refine (HDb.out _).mono ?_); rintro e w' ⟨rfl, rfl⟩)) | (go_at_call 116; ((with_reducible refine (HNa.out _).mono ?_); rintro e w' ⟨rfl, rfl⟩)) | (go_at_call 116; ((with_reducible refine (HNb.out _).mono ?_); rintro e w' ⟨rfl, rfl⟩)) | (go_at_call 117; ((with_reducible refine (HLd.out _).mono ?_); rintro e w' ⟨rfl, rfl⟩)) | (go_at_call 96; ((with_reducible refine (HPr.out _).mono ?_); rintro e w' ⟨rfl, hbl2⟩)))
  go_ret2
  exact ⟨by rw [HR.out]; rfl, hbl2⟩
end Go.Proofs.YtalpbphfmelhhaaGreatDoor

/-! ### The walk of the reference's Parse behind its five words, by the signs. Written by a program (e23.py). -/
namespace Go.Proofs.YtalpbphfmelhhaaGreatDoor
set_option maxRecDepth 100000
open Go.RowKit Go.Shelf Go.Sort
attribute [local go_sem] bs_size bs_get bs_toList neg_run
set_option maxRecDepth 100000 in
set_option maxHeartbeats 400000 in
theorem refParse_n_f1 (l t : List UInt8) (n : Nat) (w : World) (L1 : (l == [110, 97, 110]) = false) (L2 : (l == [105, 110, 102]) = false) (L3 : (l == [45, 105, 110, 102]) = false) (L4 : (l == [48]) = false) (L5 : (l == [45, 48]) = false)
    (hl0 : 0 < l.length) (hsg : (((bAt l 0).toNat : Int) == 45) = true) (hsl : (bs l).extract 1 l.length = bs t)
    (HDt : Hid (∀ W, Calls Tryz.prog 115 #[.string (bs t)] W fun e w' => e = .returned (.tuple #[.int .i64 (n : Int), .bool false]) ∧ w' = W)) :
    Calls Tryz.prog 92 #[.string (bs l)] w (ToldB w (0, 4)) := by
  have HR : Hid (True) := trivial
  go_enter Tryz.func92, Tryz.ntmps92
  go_wp2_with (first | (go_at_call 115; ((with_reducible refine (HDt.out _).mono ?_); rintro e w' ⟨rfl, rfl⟩)))
  go_ret2
  exact ⟨rfl, Below.refl _ _⟩
set_option maxRecDepth 100000 in
set_option maxHeartbeats 400000 in
theorem refParse_n_f2 (l t : List UInt8) (n : Nat) (w : World) (L1 : (l == [110, 97, 110]) = false) (L2 : (l == [105, 110, 102]) = false) (L3 : (l == [45, 105, 110, 102]) = false) (L4 : (l == [48]) = false) (L5 : (l == [45, 48]) = false)
    (hl0 : 0 < l.length) (hsg : (((bAt l 0).toNat : Int) == 45) = true) (hsl : (bs l).extract 1 l.length = bs t)
    (HDt : Hid (∀ W, Calls Tryz.prog 115 #[.string (bs t)] W fun e w' => e = .returned (.tuple #[.int .i64 (n : Int), .bool true]) ∧ w' = W))
    (ht0 : 0 < t.length) (h48 : (((bAt t 0).toNat : Int) == 48) = true) :
    Calls Tryz.prog 92 #[.string (bs l)] w (ToldB w (0, 4)) := by
  go_enter Tryz.func92, Tryz.ntmps92
  go_wp2_with (first | (go_at_call 115; ((with_reducible refine (HDt.out _).mono ?_); rintro e w' ⟨rfl, rfl⟩)))
  go_ret2
  exact ⟨rfl, Below.refl _ _⟩
set_option maxRecDepth 100000 in
set_option maxHeartbeats 400000 in
theorem refParse_n_f3 (l t : List UInt8) (n : Nat) (w : World) (L1 : (l == [110, 97, 110]) = false) (L2 : (l == [105, 110, 102]) = false) (L3 : (l == [45, 105, 110, 102]) = false) (L4 : (l == [48]) = false) (L5 : (l == [45, 48]) = false)
    (hl0 : 0 < l.length) (hsg : (((bAt l 0).toNat : Int) == 45) = true) (hsl : (bs l).extract 1 l.length = bs t)
    (HDt : Hid (∀ W, Calls Tryz.prog 115 #[.string (bs t)] W fun e w' => e = .returned (.tuple #[.int .i64 (n : Int), .bool true]) ∧ w' = W))
    (ht0 : 0 < t.length) (h48 : (((bAt t 0).toNat : Int) == 48) = false) (hn : ((n : Int) == (t.length : Int)) = true) :
    Calls Tryz.prog 92 #[.string (bs l)] w (ToldB w (0, 4)) := by
  go_enter Tryz.func92, Tryz.ntmps92
  go_wp2_with (first | (go_at_call 115; ((with_reducible refine (HDt.out _).mono ?_); rintro e w' ⟨rfl, rfl⟩)))
  go_ret2
  exact ⟨rfl, Below.refl _ _⟩
set_option maxRecDepth 100000 in
set_option maxHeartbeats 400000 in
theorem refParse_n_f4 (l t : List UInt8) (n : Nat) (w : World) (L1 : (l == [110, 97, 110]) = false) (L2 : (l == [105, 110, 102]) = false) (L3 : (l == [45, 105, 110, 102]) = false) (L4 : (l == [48]) = false) (L5 : (l == [45, 48]) = false)
    (hl0 : 0 < l.length) (hsg : (((bAt l 0).toNat : Int) == 45) = true) (hsl : (bs l).extract 1 l.length = bs t)
    (HDt : Hid (∀ W, Calls Tryz.prog 115 #[.string (bs t)] W fun e w' => e = .returned (.tuple #[.int .i64 (n : Int), .bool true]) ∧ w' = W))
    (ht0 : 0 < t.length) (h48 : (((bAt t 0).toNat : Int) == 48) = false) (hn : ((n : Int) == (t.length : Int)) = false) (hnl : n < t.length) (hp : (((bAt t n).toNat : Int) != 112) = true) :
    Calls Tryz.prog 92 #[.string (bs l)] w (ToldB w (0, 4)) := by
  go_enter Tryz.func92, Tryz.ntmps92
  go_wp2_with (first | (go_at_call 115; ((with_reducible refine (HDt.out _).mono ?_); rintro e w' ⟨rfl, rfl⟩)))
  go_ret2
  exact ⟨rfl, Below.refl _ _⟩
end Go.Proofs.YtalpbphfmelhhaaGreatDoor

/-! ### The walk of the reference's Parse behind its five words, by the signs. Written by a program (e23.py). -/
namespace Go.Proofs.YtalpbphfmelhhaaGreatDoor
set_option maxRecDepth 100000
open Go.RowKit Go.Shelf Go.Sort
attribute [local go_sem] bs_size bs_get bs_toList neg_run
set_option maxRecDepth 100000 in
set_option maxHeartbeats 400000 in
theorem refParse_n_empty (l t a : List UInt8) (n : Nat) (w : World) (L1 : (l == [110, 97, 110]) = false) (L2 : (l == [105, 110, 102]) = false) (L3 : (l == [45, 105, 110, 102]) = false) (L4 : (l == [48]) = false) (L5 : (l == [45, 48]) = false)
    (hl0 : 0 < l.length) (hsg : (((bAt l 0).toNat : Int) == 45) = true) (hsl : (bs l).extract 1 l.length = bs t)
    (HDt : Hid (∀ W, Calls Tryz.prog 115 #[.string (bs t)] W fun e w' => e = .returned (.tuple #[.int .i64 (n : Int), .bool true]) ∧ w' = W))
    (ht0 : 0 < t.length) (h48 : (((bAt t 0).toNat : Int) == 48) = false) (hn : ((n : Int) == (t.length : Int)) = false) (hnl : n < t.length) (htl : t.length ≤ 4611686018427387904) (hp : (((bAt t n).toNat : Int) != 112) = false)
    (hsa : (bs t).extract 0 n = bs a) (hsb : (bs t).extract (n + 1) t.length = bs [])
    (_hal : Hid (a.length ≤ 4611686018427387904)) (da : digB a = true) (ea : (a == [48]) = false)
    (_HP : Hid (parseOf l = parseNum true a false [])) :
    Calls Tryz.prog 92 #[.string (bs l)] w (ToldB w (parseNum true a false [])) := by
  obtain ⟨R, HR0⟩ : ∃ R, Hid (R = parseNum true a false []) := ⟨_, rfl⟩
  rw [← HR0.out]
  have HDb : Hid (∀ W, Calls Tryz.prog 115 #[.string (bs [])] W fun e w' => e = .returned (.tuple #[.int .i64 0, .bool false]) ∧ w' = W) := fun W => refDigits_any [] (by decide) W
  have HR : Hid (R = (0, 4)) := by rw [HR0.out]; unfold parseNum; rw [da, ea]; exact rfl
  clear da _HP HR0
  go_enter Tryz.func92, Tryz.ntmps92
  go_wp2_with (first | (go_at_call 115; ((with_reducible refine (HDt.out _).mono ?_); rintro e w' ⟨rfl, rfl⟩)) | (go_at_call 115; ((with_reducible refine (HDb.out _).mono ?_); rintro e w' ⟨rfl, rfl⟩)))
  go_ret2
  exact ⟨by rw [HR.out]; rfl, Below.refl _ _⟩
end Go.Proofs.YtalpbphfmelhhaaGreatDoor

/-! ### The walk of the reference's Parse behind its five words, by the signs. Written by a program (e23.py). -/
namespace Go.Proofs.YtalpbphfmelhhaaGreatDoor
set_option maxRecDepth 100000
open Go.RowKit Go.Shelf Go.Sort
attribute [local go_sem] bs_size bs_get bs_toList neg_run
set_option maxRecDepth 100000 in
set_option maxHeartbeats 400000 in
theorem refParse_n_down (l t a b0 b : List UInt8) (n : Nat) (w : World) (L1 : (l == [110, 97, 110]) = false) (L2 : (l == [105, 110, 102]) = false) (L3 : (l == [45, 105, 110, 102]) = false) (L4 : (l == [48]) = false) (L5 : (l == [45, 48]) = false)
    (hl0 : 0 < l.length) (hsg : (((bAt l 0).toNat : Int) == 45) = true) (hsl : (bs l).extract 1 l.length = bs t)
    (HDt : Hid (∀ W, Calls Tryz.prog 115 #[.string (bs t)] W fun e w' => e = .returned (.tuple #[.int .i64 (n : Int), .bool true]) ∧ w' = W))
    (ht0 : 0 < t.length) (h48 : (((bAt t 0).toNat : Int) == 48) = false) (hn : ((n : Int) == (t.length : Int)) = false) (hnl : n < t.length) (htl : t.length ≤ 4611686018427387904) (hp : (((bAt t n).toNat : Int) != 112) = false)
    (hsa : (bs t).extract 0 n = bs a) (hsb : (bs t).extract (n + 1) t.length = bs b0)
    (hb0 : 0 < b0.length) (hbs : (((bAt b0 0).toNat : Int) == 45) = true) (hbx : (bs b0).extract 1 b0.length = bs b)    (_hal : Hid (a.length ≤ 4611686018427387904)) (hbl : Hid (b.length ≤ 4611686018427387904)) (da : digB a = true) (ea : (a == [48]) = false)
    (HP : Hid (parseOf l = parseNum true a true b)) :
    Calls Tryz.prog 92 #[.string (bs l)] w (ToldB w (parseNum true a true b)) := by
  obtain ⟨R, HR0⟩ : ∃ R, Hid (R = parseNum true a true b) := ⟨_, rfl⟩
  rw [← HR0.out]
  have HF : Hid (digB b = (leadOk b && decide (leadN b = b.length))) := digB_lead b
  cases dk : leadOk b with
  | false =>
    have HR : Hid (R = (0, 4)) := by rw [HR0.out]; unfold parseNum; rw [da, ea, HF.out, dk]; exact rfl
    have HDb : Hid (∀ W, Calls Tryz.prog 115 #[.string (bs b)] W fun e w' => e = .returned (.tuple #[.int .i64 (leadN b : Int), .bool false]) ∧ w' = W) := fun W => by rw [← dk]; exact refDigits_any _ hbl.out W
    clear da HP HR0 dk HF
    generalize leadN b = k at *
    go_enter Tryz.func92, Tryz.ntmps92
    go_wp2_with (first | (go_at_call 115; ((with_reducible refine (HDt.out _).mono ?_); rintro e w' ⟨rfl, rfl⟩)) | (go_at_call 115; ((with_reducible refine (HDb.out _).mono ?_); rintro e w' ⟨rfl, rfl⟩)))
    go_ret2
    exact ⟨by rw [HR.out]; rfl, Below.refl _ _⟩
  | true =>
  have HDb : Hid (∀ W, Calls Tryz.prog 115 #[.string (bs b)] W fun e w' => e = .returned (.tuple #[.int .i64 (leadN b : Int), .bool true]) ∧ w' = W) := fun W => by rw [← dk]; exact refDigits_any _ hbl.out W
  by_cases hk : leadN b = b.length
  case neg =>
    have HR : Hid (R = (0, 4)) := by rw [HR0.out]; unfold parseNum; rw [da, ea, HF.out, dk, decide_eq_false hk]; exact rfl
    have hk1 : ((leadN b : Int) != (b.length : Int)) = true := bne_iff_ne.2 (by omega)
    clear da HP HR0 dk HF hk
    generalize leadN b = k at *
    go_enter Tryz.func92, Tryz.ntmps92
    go_wp2_with (first | (go_at_call 115; ((with_reducible refine (HDt.out _).mono ?_); rintro e w' ⟨rfl, rfl⟩)) | (go_at_call 115; ((with_reducible refine (HDb.out _).mono ?_); rintro e w' ⟨rfl, rfl⟩)))
    go_ret2
    exact ⟨by rw [HR.out]; rfl, Below.refl _ _⟩
  have hk1 : ((leadN b : Int) != (b.length : Int)) = false := by rw [hk]; exact bne_self_eq_false' _
  have db : digB b = true := by rw [HF.out, dk, decide_eq_true hk]; rfl
  clear dk HF hk
  generalize leadN b = k at *
  cases eb : (b == [48]) with
  | true =>
    have HR : Hid (R = (0, 4)) := by rw [HR0.out]; unfold parseNum; rw [da, ea, db, eb]; exact rfl
    clear da HP HR0 db
    go_enter Tryz.func92, Tryz.ntmps92
    go_wp2_with (first | (go_at_call 115; ((with_reducible refine (HDt.out _).mono ?_); rintro e w' ⟨rfl, rfl⟩)) | (go_at_call 115; ((with_reducible refine (HDb.out _).mono ?_); rintro e w' ⟨rfl, rfl⟩)))
    go_ret2
    exact ⟨by rw [HR.out]; rfl, Below.refl _ _⟩
  | false =>
  have HN : Hid ((!digB a || (a == [48]) || !digB b || (true && (b == [48]))) = false) := by rw [da, ea, db, eb]; exact rfl
  by_cases ha : 17 < a.length
  · have HR : Hid (R = (0, 1)) := by rw [HR0.out]; unfold parseNum; rw [HN.out, if_neg (by decide), if_pos (Or.inl (by omega))]; exact rfl
    clear da HP HR0 db HN
    go_enter Tryz.func92, Tryz.ntmps92
    go_wp2_with (first | (go_at_call 115; ((with_reducible refine (HDt.out _).mono ?_); rintro e w' ⟨rfl, rfl⟩)) | (go_at_call 115; ((with_reducible refine (HDb.out _).mono ?_); rintro e w' ⟨rfl, rfl⟩)))
    go_ret2
    exact ⟨by rw [HR.out]; rfl, Below.refl _ _⟩
  by_cases hb : 5 < b.length
  · have HR : Hid (R = (0, 1)) := by rw [HR0.out]; unfold parseNum; rw [HN.out, if_neg (by decide), if_pos (Or.inr (Or.inl hb))]; exact rfl
    clear da HP HR0 db HN
    go_enter Tryz.func92, Tryz.ntmps92
    go_wp2_with (first | (go_at_call 115; ((with_reducible refine (HDt.out _).mono ?_); rintro e w' ⟨rfl, rfl⟩)) | (go_at_call 115; ((with_reducible refine (HDb.out _).mono ?_); rintro e w' ⟨rfl, rfl⟩)))
    go_ret2
    exact ⟨by rw [HR.out]; rfl, Below.refl _ _⟩
  have HNa : Hid (∀ W, Calls Tryz.prog 116 #[.string (bs a)] W fun e w' => e = .returned (.int .i64 ((dv a : Nat) : Int)) ∧ w' = W) := fun W => number_any a (by omega) (dig_all da) W
  have HNb : Hid (∀ W, Calls Tryz.prog 116 #[.string (bs b)] W fun e w' => e = .returned (.int .i64 ((dv b : Nat) : Int)) ∧ w' = W) := fun W => number_any b (by omega) (dig_all db) W
  have hpb := dv_bd db
  have hpb2 : 10 ^ b.length ≤ 10 ^ 5 := Nat.pow_le_pow_right (by decide) (by omega)
  have hpb3 : dv b < 100000 := Nat.lt_of_lt_of_le hpb hpb2
  have hp0 : (0 : Int) ≤ ((dv b : Nat) : Int) := by omega
  have hp1 : ((dv b : Nat) : Int) ≤ 100000 := by omega
  have hm0 : (0 : Int) ≤ ((dv a : Nat) : Int) := by omega
  clear hpb hpb2
  have HER := parseNum_err true a true b
  rw [← HR0.out] at HER
  have HBAD : Hid (R.2 ≠ 0 → ∀ x, printOf x ≠ l) := fun h x => no_print (by rw [HP.out, ← HR0.out]; exact h) x
  have HOK : Hid (R.2 = 0 → printOf R.1 = l) := fun h => print_parse (by rw [HP.out, ← HR0.out, ← h])
  by_cases hr0 : R.2 = 0
  case neg =>
    have HR : Hid (R = (0, 1)) := by
      rcases HER with h | h | h
      · exact absurd h hr0
      · exact h
      · exfalso
        rw [h] at HR0
        exact parseNum_not4 HN.out HR0.out.symm
    have HB := HBAD.out hr0
    obtain ⟨Y, hcv⟩ := conv_any (dv a)
    have HL := fun W => Ldexp_any Y (-((dv b : Nat) : Int)) (by omega) W
    clear HER HBAD HOK hr0 HN HP HR0 da db hpb3
    have HB := Lib.hid HB
    have HL := Lib.hid HL
    generalize ((dv a : Nat) : Int) = m at *
    generalize ((dv b : Nat) : Int) = p at *
    go_enter Tryz.func92, Tryz.ntmps92
    go_wp2_with (first | (go_at_call 115; ((with_reducible refine (HDt.out _).mono ?_); rintro e w' ⟨rfl, rfl⟩)) | (go_at_call 115; ((with_reducible refine (HDb.out _).mono ?_); rintro e w' ⟨rfl, rfl⟩)) | (go_at_call 116; ((with_reducible refine (HNa.out _).mono ?_); rintro e w' ⟨rfl, rfl⟩)) | (go_at_call 116; ((with_reducible refine (HNb.out _).mono ?_); rintro e w' ⟨rfl, rfl⟩)) | (go_at_call 117; ((with_reducible refine (HL.out _).mono ?_); rintro e w' ⟨r, nd, rfl, rfl⟩)))
    go_at_call 96
    refine (refPrint_any _ _).mono ?_
    rintro e w' ⟨rfl, hbl2⟩
    have hq : (printOf (sgn true r) == l) = false := beq_eq_false_iff_ne.2 (HB.out _)
    have hq2 : (printOf (sgn true r) != l) = true := bne_iff_ne.2 (HB.out _)
    have es : r ^^^ topW = sgn true r := rfl
    rw [← es] at hq hq2
    clear es
    generalize printOf _ = P at *
    go_wp2
    go_ret2
    exact ⟨by rw [HR.out]; rfl, Below.trans (below_drewN (Below.refl _ _) nd) hbl2⟩
  have hz : parseNum true a true b = (R.1, 0) := by rw [← HR0.out, ← hr0]
  obtain ⟨m0, e0, hI, ho, ha2, hb2, hz2⟩ := parseNum_ok hz
  have hdm : dv a = m0 := by rw [ha2, dv_dd]
  have hde : -((dv b : Nat) : Int) = e0 := itoa_back db hb2
  have hpr := HOK.out hr0
  have HR : Hid (R = (sgn true (ldW m0 e0), 0)) := Prod.ext hz2 hr0
  rw [HR.out] at hpr
  have hcv : floatOfInt .f64 ((dv a : Nat) : Int) = fb (fOf m0) := by rw [hdm]; exact conv_nat m0 hI.ne hI.lt
  have HLd : Hid (∀ W, Calls Tryz.prog 117 #[.float .f64 (fb (fOf m0)), .int .i64 (-((dv b : Nat) : Int))] W fun v w' => v = .returned (.float .f64 (fb (ldW m0 e0))) ∧ w' = W) := fun W => by rw [hde]; exact Ldexp_fits m0 e0 hI W
  have hq : (printOf (sgn true (ldW m0 e0)) == l) = true := beq_iff_eq.2 hpr
  have hq2 : (printOf (sgn true (ldW m0 e0)) != l) = false := by rw [bne, hq]; rfl
  have HPr : Hid (∀ W, Calls Tryz.prog 96 #[.float .f64 (fb (sgn true (ldW m0 e0)))] W fun e w' => e = .returned (.string (bs (printOf (sgn true (ldW m0 e0))))) ∧ Below W.heap.size W w') := fun W => refPrint_any _ W
  clear HER HBAD HOK hr0 HN HP HR0 da db hpb3 hz hI ho ha2 hb2 hz2 hdm hde hpr
  generalize printOf (sgn true (ldW m0 e0)) = P at *
  have e1 : sgn true (ldW m0 e0) = ldW m0 e0 ^^^ topW := rfl
  rw [e1] at HR HPr
  clear e1
  generalize ldW m0 e0 = X at *
  generalize fOf m0 = Y at *
  generalize ((dv a : Nat) : Int) = m at *
  generalize ((dv b : Nat) : Int) = p at *
  go_enter Tryz.func92, Tryz.ntmps92
  go_wp2_with (first | (go_at_call 115; ((with_reducible refine (HDt.out _).mono ?_); rintro e w' ⟨rfl, rfl⟩)) | (go_at_call 115; ((with_reducible refine (HDb.out _).mono ?_); rintro e w' ⟨rfl, rfl⟩)) | (go_at_call 116; ((with_reducible refine (HNa.out _).mono ?_); rintro e w' ⟨rfl, rfl⟩)) | (go_at_call 116; ((with_reducible refine (HNb.out _).mono ?_); rintro e w' ⟨rfl, rfl⟩)) | (go_at_call 117; ((with_reducible refine (HLd.out _).mono ?_); rintro e w' ⟨rfl, rfl⟩)) | (go_at_call 96; ((with_reducible refine (HPr.out _).mono ?_); rintro e w' ⟨rfl, hbl2⟩)))
  go_ret2
  exact ⟨by rw [HR.out]; rfl, hbl2⟩
end Go.Proofs.YtalpbphfmelhhaaGreatDoor

/-! ### The walk of the reference's Parse behind its five words, by the signs. Written by a program (e23.py). -/
namespace Go.Proofs.YtalpbphfmelhhaaGreatDoor
set_option maxRecDepth 100000
open Go.RowKit Go.Shelf Go.Sort
attribute [local go_sem] bs_size bs_get bs_toList neg_run
set_option maxRecDepth 100000 in
set_option maxHeartbeats 400000 in
theorem refParse_n_plain (l t a b0 : List UInt8) (n : Nat) (w : World) (L1 : (l == [110, 97, 110]) = false) (L2 : (l == [105, 110, 102]) = false) (L3 : (l == [45, 105, 110, 102]) = false) (L4 : (l == [48]) = false) (L5 : (l == [45, 48]) = false)
    (hl0 : 0 < l.length) (hsg : (((bAt l 0).toNat : Int) == 45) = true) (hsl : (bs l).extract 1 l.length = bs t)
    (HDt : Hid (∀ W, Calls Tryz.prog 115 #[.string (bs t)] W fun e w' => e = .returned (.tuple #[.int .i64 (n : Int), .bool true]) ∧ w' = W))
    (ht0 : 0 < t.length) (h48 : (((bAt t 0).toNat : Int) == 48) = false) (hn : ((n : Int) == (t.length : Int)) = false) (hnl : n < t.length) (htl : t.length ≤ 4611686018427387904) (hp : (((bAt t n).toNat : Int) != 112) = false)
    (hsa : (bs t).extract 0 n = bs a) (hsb : (bs t).extract (n + 1) t.length = bs b0)
    (hb0 : 0 < b0.length) (hbs : (((bAt b0 0).toNat : Int) == 45) = false)    (_hal : Hid (a.length ≤ 4611686018427387904)) (hbl : Hid (b0.length ≤ 4611686018427387904)) (da : digB a = true) (ea : (a == [48]) = false)
    (HP : Hid (parseOf l = parseNum true a false b0)) :
    Calls Tryz.prog 92 #[.string (bs l)] w (ToldB w (parseNum true a false b0)) := by
  obtain ⟨R, HR0⟩ : ∃ R, Hid (R = parseNum true a false b0) := ⟨_, rfl⟩
  rw [← HR0.out]
  have HF : Hid (digB b0 = (leadOk b0 && decide (leadN b0 = b0.length))) := digB_lead b0
  cases dk : leadOk b0 with
  | false =>
    have HR : Hid (R = (0, 4)) := by rw [HR0.out]; unfold parseNum; rw [da, ea, HF.out, dk]; exact rfl
    have HDb : Hid (∀ W, Calls Tryz.prog 115 #[.string (bs b0)] W fun e w' => e = .returned (.tuple #[.int .i64 (leadN b0 : Int), .bool false]) ∧ w' = W) := fun W => by rw [← dk]; exact refDigits_any _ hbl.out W
    clear da HP HR0 dk HF
    generalize leadN b0 = k at *
    go_enter Tryz.func92, Tryz.ntmps92
    go_wp2_with (first | (go_at_call 115; ((with_reducible refine (HDt.out _).mono ?_); rintro e w' ⟨rfl, rfl⟩)) | (go_at_call 115; ((with_reducible refine (HDb.out _).mono ?_); rintro e w' ⟨rfl, rfl⟩)))
    go_ret2
    exact ⟨by rw [HR.out]; rfl, Below.refl _ _⟩
  | true =>
  have HDb : Hid (∀ W, Calls Tryz.prog 115 #[.string (bs b0)] W fun e w' => e = .returned (.tuple #[.int .i64 (leadN b0 : Int), .bool true]) ∧ w' = W) := fun W => by rw [← dk]; exact refDigits_any _ hbl.out W
  by_cases hk : leadN b0 = b0.length
  case neg =>
    have HR : Hid (R = (0, 4)) := by rw [HR0.out]; unfold parseNum; rw [da, ea, HF.out, dk, decide_eq_false hk]; exact rfl
    have hk1 : ((leadN b0 : Int) != (b0.length : Int)) = true := bne_iff_ne.2 (by omega)
    clear da HP HR0 dk HF hk
    generalize leadN b0 = k at *
    go_enter Tryz.func92, Tryz.ntmps92
    go_wp2_with (first | (go_at_call 115; ((with_reducible refine (HDt.out _).mono ?_); rintro e w' ⟨rfl, rfl⟩)) | (go_at_call 115; ((with_reducible refine (HDb.out _).mono ?_); rintro e w' ⟨rfl, rfl⟩)))
    go_ret2
    exact ⟨by rw [HR.out]; rfl, Below.refl _ _⟩
  have hk1 : ((leadN b0 : Int) != (b0.length : Int)) = false := by rw [hk]; exact bne_self_eq_false' _
  have db : digB b0 = true := by rw [HF.out, dk, decide_eq_true hk]; rfl
  clear dk HF hk
  generalize leadN b0 = k at *
  have HN : Hid ((!digB a || (a == [48]) || !digB b0 || (false && (b0 == [48]))) = false) := by rw [da, ea, db]; exact rfl
  by_cases ha : 17 < a.length
  · have HR : Hid (R = (0, 1)) := by rw [HR0.out]; unfold parseNum; rw [HN.out, if_neg (by decide), if_pos (Or.inl (by omega))]; exact rfl
    clear da HP HR0 db HN
    go_enter Tryz.func92, Tryz.ntmps92
    go_wp2_with (first | (go_at_call 115; ((with_reducible refine (HDt.out _).mono ?_); rintro e w' ⟨rfl, rfl⟩)) | (go_at_call 115; ((with_reducible refine (HDb.out _).mono ?_); rintro e w' ⟨rfl, rfl⟩)))
    go_ret2
    exact ⟨by rw [HR.out]; rfl, Below.refl _ _⟩
  by_cases hb : 5 < b0.length
  · have HR : Hid (R = (0, 1)) := by rw [HR0.out]; unfold parseNum; rw [HN.out, if_neg (by decide), if_pos (Or.inr (Or.inl hb))]; exact rfl
    clear da HP HR0 db HN
    go_enter Tryz.func92, Tryz.ntmps92
    go_wp2_with (first | (go_at_call 115; ((with_reducible refine (HDt.out _).mono ?_); rintro e w' ⟨rfl, rfl⟩)) | (go_at_call 115; ((with_reducible refine (HDb.out _).mono ?_); rintro e w' ⟨rfl, rfl⟩)))
    go_ret2
    exact ⟨by rw [HR.out]; rfl, Below.refl _ _⟩
  have HNa : Hid (∀ W, Calls Tryz.prog 116 #[.string (bs a)] W fun e w' => e = .returned (.int .i64 ((dv a : Nat) : Int)) ∧ w' = W) := fun W => number_any a (by omega) (dig_all da) W
  have HNb : Hid (∀ W, Calls Tryz.prog 116 #[.string (bs b0)] W fun e w' => e = .returned (.int .i64 ((dv b0 : Nat) : Int)) ∧ w' = W) := fun W => number_any b0 (by omega) (dig_all db) W
  have hpb := dv_bd db
  have hpb2 : 10 ^ b0.length ≤ 10 ^ 5 := Nat.pow_le_pow_right (by decide) (by omega)
  have hpb3 : dv b0 < 100000 := Nat.lt_of_lt_of_le hpb hpb2
  have hp0 : (0 : Int) ≤ ((dv b0 : Nat) : Int) := by omega
  have hp1 : ((dv b0 : Nat) : Int) ≤ 100000 := by omega
  have hm0 : (0 : Int) ≤ ((dv a : Nat) : Int) := by omega
  clear hpb hpb2
  have HER := parseNum_err true a false b0
  rw [← HR0.out] at HER
  have HBAD : Hid (R.2 ≠ 0 → ∀ x, printOf x ≠ l) := fun h x => no_print (by rw [HP.out, ← HR0.out]; exact h) x
  have HOK : Hid (R.2 = 0 → printOf R.1 = l) := fun h => print_parse (by rw [HP.out, ← HR0.out, ← h])
  by_cases hr0 : R.2 = 0
  case neg =>
    have HR : Hid (R = (0, 1)) := by
      rcases HER with h | h | h
      · exact absurd h hr0
      · exact h
      · exfalso
        rw [h] at HR0
        exact parseNum_not4 HN.out HR0.out.symm
    have HB := HBAD.out hr0
    obtain ⟨Y, hcv⟩ := conv_any (dv a)
    have HL := fun W => Ldexp_any Y (((dv b0 : Nat) : Int)) (by omega) W
    clear HER HBAD HOK hr0 HN HP HR0 da db hpb3
    have HB := Lib.hid HB
    have HL := Lib.hid HL
    generalize ((dv a : Nat) : Int) = m at *
    generalize ((dv b0 : Nat) : Int) = p at *
    go_enter Tryz.func92, Tryz.ntmps92
    go_wp2_with (first | (go_at_call 115; ((with_reducible refine (HDt.out _).mono ?_); rintro e w' ⟨rfl, rfl⟩)) | (go_at_call 115; ((with_reducible refine (HDb.out _).mono ?_); rintro e w' ⟨rfl, rfl⟩)) | (go_at_call 116; ((with_reducible refine (HNa.out _).mono ?_); rintro e w' ⟨rfl, rfl⟩)) | (go_at_call 116; ((with_reducible refine (HNb.out _).mono ?_); rintro e w' ⟨rfl, rfl⟩)) | (go_at_call 117; ((with_reducible refine (HL.out _).mono ?_); rintro e w' ⟨r, nd, rfl, rfl⟩)))
    go_at_call 96
    refine (refPrint_any _ _).mono ?_
    rintro e w' ⟨rfl, hbl2⟩
    have hq : (printOf (sgn true r) == l) = false := beq_eq_false_iff_ne.2 (HB.out _)
    have hq2 : (printOf (sgn true r) != l) = true := bne_iff_ne.2 (HB.out _)
    have es : r ^^^ topW = sgn true r := rfl
    rw [← es] at hq hq2
    clear es
    generalize printOf _ = P at *
    go_wp2
    go_ret2
    exact ⟨by rw [HR.out]; rfl, Below.trans (below_drewN (Below.refl _ _) nd) hbl2⟩
  have hz : parseNum true a false b0 = (R.1, 0) := by rw [← HR0.out, ← hr0]
  obtain ⟨m0, e0, hI, ho, ha2, hb2, hz2⟩ := parseNum_ok hz
  have hdm : dv a = m0 := by rw [ha2, dv_dd]
  have hde : ((dv b0 : Nat) : Int) = e0 := itoa_back db hb2
  have hpr := HOK.out hr0
  have HR : Hid (R = (sgn true (ldW m0 e0), 0)) := Prod.ext hz2 hr0
  rw [HR.out] at hpr
  have hcv : floatOfInt .f64 ((dv a : Nat) : Int) = fb (fOf m0) := by rw [hdm]; exact conv_nat m0 hI.ne hI.lt
  have HLd : Hid (∀ W, Calls Tryz.prog 117 #[.float .f64 (fb (fOf m0)), .int .i64 (((dv b0 : Nat) : Int))] W fun v w' => v = .returned (.float .f64 (fb (ldW m0 e0))) ∧ w' = W) := fun W => by rw [hde]; exact Ldexp_fits m0 e0 hI W
  have hq : (printOf (sgn true (ldW m0 e0)) == l) = true := beq_iff_eq.2 hpr
  have hq2 : (printOf (sgn true (ldW m0 e0)) != l) = false := by rw [bne, hq]; rfl
  have HPr : Hid (∀ W, Calls Tryz.prog 96 #[.float .f64 (fb (sgn true (ldW m0 e0)))] W fun e w' => e = .returned (.string (bs (printOf (sgn true (ldW m0 e0))))) ∧ Below W.heap.size W w') := fun W => refPrint_any _ W
  clear HER HBAD HOK hr0 HN HP HR0 da db hpb3 hz hI ho ha2 hb2 hz2 hdm hde hpr
  generalize printOf (sgn true (ldW m0 e0)) = P at *
  have e1 : sgn true (ldW m0 e0) = ldW m0 e0 ^^^ topW := rfl
  rw [e1] at HR HPr
  clear e1
  generalize ldW m0 e0 = X at *
  generalize fOf m0 = Y at *
  generalize ((dv a : Nat) : Int) = m at *
  generalize ((dv b0 : Nat) : Int) = p at *
  go_enter Tryz.func92, Tryz.ntmps92
  go_wp2_with (first | (go_at_call 115; ((with_reducible refine (HDt.out _).mono ?_); rintro e w' ⟨rfl, rfl⟩)) | (go_at_call 115; ((with_reducible refine (HDb.out _).mono ?_); rintro e w' ⟨rfl, rfl⟩)) | (go_at_call 116; ((with_reducible refine (HNa.out _).mono ?_); rintro e w' ⟨rfl, rfl⟩)) | (go_at_call 116; ((with_reducible refine (HNb.out _).mono ?_); rintro e w' ⟨rfl, rfl⟩)) | (go_at_call 117; ((with_reducible refine (HLd.out _).mono ?_); rintro e w' ⟨rfl, rfl⟩)) | (go_at_call 96; ((with_reducible refine (HPr.out _).mono ?_); rintro e w' ⟨rfl, hbl2⟩)))
  go_ret2
  exact ⟨by rw [HR.out]; rfl, hbl2⟩
end Go.Proofs.YtalpbphfmelhhaaGreatDoor

/-! ### The reference's Parse of any text: put together. -/
namespace Go.Proofs.YtalpbphfmelhhaaGreatDoor
set_option maxRecDepth 100000
open Go.RowKit Go.Shelf Go.Sort
attribute [local go_sem] bs_size bs_get bs_toList neg_run
theorem refOf_nan (w : World) : Calls Tryz.prog 113 #[.int .u64 9221120237041090560] w fun e w' => e = .returned (.float .f64 (fb nanW)) ∧ w' = w := refOf_any nanW w
section
attribute [local go_sem] ftop
set_option maxRecDepth 100000
set_option maxHeartbeats 400000
theorem refParse_nan (w : World) : Calls Tryz.prog 92 #[.string (bs [110, 97, 110])] w (ToldB w (nanW, 0)) := by
  go_enter Tryz.func92, Tryz.ntmps92
  go_wp2_with (go_at_call 113; ((with_reducible refine (refOf_nan _).mono ?_); rintro e w' ⟨rfl, rfl⟩))
  go_ret2
  exact ⟨rfl, Below.refl _ _⟩
theorem refParse_inf (w : World) : Calls Tryz.prog 92 #[.string (bs [105, 110, 102])] w (ToldB w (9218868437227405312, 0)) := by
  go_enter Tryz.func92, Tryz.ntmps92
  go_wp2_with (go_at_call 114; ((with_reducible refine (inf_pos _).mono ?_); rintro e w' ⟨rfl, rfl⟩))
  go_ret2
  exact ⟨rfl, Below.refl _ _⟩
theorem refParse_ninf (w : World) : Calls Tryz.prog 92 #[.string (bs [45, 105, 110, 102])] w (ToldB w (18442240474082181120, 0)) := by
  go_enter Tryz.func92, Tryz.ntmps92
  go_wp2_with (go_at_call 114; ((with_reducible refine (inf_neg _).mono ?_); rintro e w' ⟨rfl, rfl⟩))
  go_ret2
  exact ⟨rfl, Below.refl _ _⟩
theorem refParse_zero (w : World) : Calls Tryz.prog 92 #[.string (bs [48])] w (ToldB w (0, 0)) := by
  go_enter Tryz.func92, Tryz.ntmps92
  go_wp2_with fail
  go_ret2
  exact ⟨rfl, Below.refl _ _⟩
theorem refParse_nzero (w : World) : Calls Tryz.prog 92 #[.string (bs [45, 48])] w (ToldB w (topW, 0)) := by
  go_enter Tryz.func92, Tryz.ntmps92
  go_wp2_with fail
  go_ret2
  exact ⟨rfl, Below.refl _ _⟩
theorem refParse_empty (w : World) : Calls Tryz.prog 92 #[.string (bs [])] w (ToldB w (0, 4)) := by
  have HDt : Hid (∀ W, Calls Tryz.prog 115 #[.string (bs [])] W fun e w' => e = .returned (.tuple #[.int .i64 0, .bool false]) ∧ w' = W) := fun W => refDigits_any [] (by decide) W
  go_enter Tryz.func92, Tryz.ntmps92
  go_wp2_with (go_at_call 115; ((with_reducible refine (HDt.out _).mono ?_); rintro e w' ⟨rfl, rfl⟩))
  go_ret2
  exact ⟨rfl, Below.refl _ _⟩
end
theorem b48 (c : UInt8) : ((c.toNat : Int) == 48) = decide (c = 48) := by
  rw [Bool.eq_iff_iff]; simp; rw [← UInt8.toNat_inj, show (48 : UInt8).toNat = 48 from rfl]; omega
theorem b112 (c : UInt8) : ((c.toNat : Int) != 112) = !decide (c = 112) := by
  rw [bne, Bool.eq_iff_iff]; simp; rw [← UInt8.toNat_inj, show (112 : UInt8).toNat = 112 from rfl]; omega
theorem refParse_tailP (neg : Bool) (l t : List UInt8) (hl : t.length ≤ 4611686018427387904) (w : World) (hP : parseOf l = parseTail neg t)
    (f1 : ∀ n : Nat, Hid (∀ W, Calls Tryz.prog 115 #[.string (bs t)] W fun e w' => e = .returned (.tuple #[.int .i64 (n : Int), .bool false]) ∧ w' = W) → Calls Tryz.prog 92 #[.string (bs l)] w (ToldB w (0, 4)))
    (f2 : ∀ n : Nat, Hid (∀ W, Calls Tryz.prog 115 #[.string (bs t)] W fun e w' => e = .returned (.tuple #[.int .i64 (n : Int), .bool true]) ∧ w' = W) → 0 < t.length → ((((bAt t 0).toNat : Int) == 48) = true) → Calls Tryz.prog 92 #[.string (bs l)] w (ToldB w (0, 4)))
    (f3 : ∀ n : Nat, Hid (∀ W, Calls Tryz.prog 115 #[.string (bs t)] W fun e w' => e = .returned (.tuple #[.int .i64 (n : Int), .bool true]) ∧ w' = W) → 0 < t.length → ((((bAt t 0).toNat : Int) == 48) = false) → (((n : Int) == (t.length : Int)) = true) → Calls Tryz.prog 92 #[.string (bs l)] w (ToldB w (0, 4)))
    (f4 : ∀ n : Nat, Hid (∀ W, Calls Tryz.prog 115 #[.string (bs t)] W fun e w' => e = .returned (.tuple #[.int .i64 (n : Int), .bool true]) ∧ w' = W) → 0 < t.length → ((((bAt t 0).toNat : Int) == 48) = false) → (((n : Int) == (t.length : Int)) = false) → n < t.length → ((((bAt t n).toNat : Int) != 112) = true) → Calls Tryz.prog 92 #[.string (bs l)] w (ToldB w (0, 4)))
    (ne : ∀ (a : List UInt8) (n : Nat), Hid (∀ W, Calls Tryz.prog 115 #[.string (bs t)] W fun e w' => e = .returned (.tuple #[.int .i64 (n : Int), .bool true]) ∧ w' = W) → 0 < t.length → ((((bAt t 0).toNat : Int) == 48) = false) → (((n : Int) == (t.length : Int)) = false) → n < t.length → ((((bAt t n).toNat : Int) != 112) = false) →
      (bs t).extract 0 n = bs a → (bs t).extract (n + 1) t.length = bs [] → Hid (a.length ≤ 4611686018427387904) → digB a = true → (a == [48]) = false → Hid (parseOf l = parseNum neg a false []) → Calls Tryz.prog 92 #[.string (bs l)] w (ToldB w (parseNum neg a false [])))
    (nd : ∀ (a b0 b : List UInt8) (n : Nat), Hid (∀ W, Calls Tryz.prog 115 #[.string (bs t)] W fun e w' => e = .returned (.tuple #[.int .i64 (n : Int), .bool true]) ∧ w' = W) → 0 < t.length → ((((bAt t 0).toNat : Int) == 48) = false) → (((n : Int) == (t.length : Int)) = false) → n < t.length → ((((bAt t n).toNat : Int) != 112) = false) →
      (bs t).extract 0 n = bs a → (bs t).extract (n + 1) t.length = bs b0 → 0 < b0.length → (((bAt b0 0).toNat : Int) == 45) = true → (bs b0).extract 1 b0.length = bs b → Hid (a.length ≤ 4611686018427387904) → Hid (b.length ≤ 4611686018427387904) → digB a = true → (a == [48]) = false → Hid (parseOf l = parseNum neg a true b) → Calls Tryz.prog 92 #[.string (bs l)] w (ToldB w (parseNum neg a true b)))
    (np : ∀ (a b0 : List UInt8) (n : Nat), Hid (∀ W, Calls Tryz.prog 115 #[.string (bs t)] W fun e w' => e = .returned (.tuple #[.int .i64 (n : Int), .bool true]) ∧ w' = W) → 0 < t.length → ((((bAt t 0).toNat : Int) == 48) = false) → (((n : Int) == (t.length : Int)) = false) → n < t.length → ((((bAt t n).toNat : Int) != 112) = false) →
      (bs t).extract 0 n = bs a → (bs t).extract (n + 1) t.length = bs b0 → 0 < b0.length → (((bAt b0 0).toNat : Int) == 45) = false → Hid (a.length ≤ 4611686018427387904) → Hid (b0.length ≤ 4611686018427387904) → digB a = true → (a == [48]) = false → Hid (parseOf l = parseNum neg a false b0) → Calls Tryz.prog 92 #[.string (bs l)] w (ToldB w (parseNum neg a false b0))) :
    Calls Tryz.prog 92 #[.string (bs l)] w (ToldB w (parseTail neg t)) := by
  have hd := fun W => refDigits_any t hl W
  have hle := leadN_le t
  cases ok : leadOk t with
  | false =>
    rw [ok] at hd
    rw [tail_form neg (fun h => by rw [ok] at h; cases h.1)]
    exact f1 _ hd
  | true =>
  rw [ok] at hd
  have hpos : 0 < leadN t := by unfold leadOk at ok; rw [Bool.and_eq_true] at ok; exact of_decide_eq_true ok.1
  by_cases h48 : bAt t 0 = 48
  · rw [tail_form neg (fun h => h.2.1 h48)]
    exact f2 _ hd (by omega) (by rw [b48]; exact decide_eq_true h48)
  have g48 : (((bAt t 0).toNat : Int) == 48) = false := by rw [b48]; exact decide_eq_false h48
  by_cases hn : leadN t < t.length
  case neg =>
    rw [tail_form neg (fun h => hn h.2.2.1)]
    exact f3 _ hd (by omega) g48 (beq_iff_eq.2 (by omega))
  have gn : ((leadN t : Int) == (t.length : Int)) = false := beq_eq_false_iff_ne.2 (by omega)
  by_cases hp : bAt t (leadN t) = 112
  case neg =>
    rw [tail_form neg (fun h => hp h.2.2.2)]
    exact f4 _ hd (by omega) g48 gn hn (by rw [b112, decide_eq_false hp]; rfl)
  have gp : (((bAt t (leadN t)).toNat : Int) != 112) = false := by rw [b112, decide_eq_true hp]; rfl
  have hT := tail_num neg ok h48 hn hp
  obtain ⟨_, da, ea⟩ := lead_form ok h48 hn hp
  rw [hT]
  rw [hT] at hP
  have ha : (t.take (leadN t)).length ≤ 4611686018427387904 := by rw [List.length_take]; omega
  have hb : (t.drop (leadN t + 1)).length ≤ 4611686018427387904 := by rw [List.length_drop]; omega
  have s1 := bs_take t (leadN t)
  have s2 := bs_drop t (leadN t + 1)
  have htl : 0 < t.length := by omega
  generalize t.take (leadN t) = a at *
  generalize t.drop (leadN t + 1) = b0 at *
  cases b0 with
  | nil => exact ne a _ hd htl g48 gn hn gp s1 s2 ha da ea hP
  | cons c r =>
    cases hc : decide (bAt (c :: r) 0 = 45) with
    | true =>
      have hn2 : negB (c :: r) = true := negB_pos (Nat.succ_pos _) hc
      have hu : unsgn (c :: r) = r := by unfold unsgn; rw [hn2]; rfl
      rw [hn2, hu] at hP ⊢
      exact nd a (c :: r) r _ hd htl g48 gn hn gp s1 s2 (Nat.succ_pos _) (by rw [b45]; exact hc) (bs_drop (c :: r) 1) ha (by simp at hb; show _ ≤ _; omega) da ea hP
    | false =>
      have hn2 : negB (c :: r) = false := negB_pos (Nat.succ_pos _) hc
      have hu : unsgn (c :: r) = c :: r := by unfold unsgn; rw [hn2]; rfl
      rw [hn2, hu] at hP ⊢
      exact np a (c :: r) _ hd htl g48 gn hn gp s1 s2 (Nat.succ_pos _) (by rw [b45]; exact hc) ha hb da ea hP
theorem refParse_any (l : List UInt8) (hl : l.length ≤ 4611686018427387904) (w : World) : Calls Tryz.prog 92 #[.string (bs l)] w (ToldB w (parseOf l)) := by
  have hP : parseOf l = parseOf l := rfl
  conv at hP => rhs; unfold parseOf
  rw [hP]
  by_cases h1 : l = [110, 97, 110]
  · rw [if_pos h1, h1]; exact refParse_nan w
  rw [if_neg h1] at hP ⊢
  by_cases h2 : l = [105, 110, 102]
  · rw [if_pos h2, h2]; exact refParse_inf w
  rw [if_neg h2] at hP ⊢
  by_cases h3 : l = [45, 105, 110, 102]
  · rw [if_pos h3, h3]; exact refParse_ninf w
  rw [if_neg h3] at hP ⊢
  by_cases h4 : l = [48]
  · rw [if_pos h4, h4]; exact refParse_zero w
  rw [if_neg h4] at hP ⊢
  by_cases h5 : l = [45, 48]
  · rw [if_pos h5, h5]; exact refParse_nzero w
  rw [if_neg h5] at hP ⊢
  have L1 := beq_eq_false_iff_ne.2 h1
  have L2 := beq_eq_false_iff_ne.2 h2
  have L3 := beq_eq_false_iff_ne.2 h3
  have L4 := beq_eq_false_iff_ne.2 h4
  have L5 := beq_eq_false_iff_ne.2 h5
  clear h1 h2 h3 h4 h5
  cases l with
  | nil => exact refParse_empty w
  | cons c r =>
    generalize hq : c :: r = l at *
    have hl0 : 0 < l.length := by rw [← hq]; simp
    cases hd : decide (bAt l 0 = 45) with
    | true =>
      have hn : negB l = true := negB_pos hl0 hd
      have hu : unsgn l = r := by unfold unsgn; rw [hn, ← hq]; rfl
      have hsg : (((bAt l 0).toNat : Int) == 45) = true := by rw [b45]; exact hd
      have hsl : (bs l).extract 1 l.length = bs r := by rw [bs_drop l 1, ← hq]; rfl
      rw [hn, hu] at hP ⊢
      have hrl : r.length ≤ 4611686018427387904 := by rw [← hq] at hl; simp at hl; omega
      clear hq
      refine refParse_tailP true l r hrl w hP ?_ ?_ ?_ ?_ ?_ ?_ ?_
      · exact fun n H => refParse_n_f1 l r n w L1 L2 L3 L4 L5 hl0 hsg hsl H
      · exact fun n H a b => refParse_n_f2 l r n w L1 L2 L3 L4 L5 hl0 hsg hsl H a b
      · exact fun n H a b c => refParse_n_f3 l r n w L1 L2 L3 L4 L5 hl0 hsg hsl H a b c
      · exact fun n H a b c d e => refParse_n_f4 l r n w L1 L2 L3 L4 L5 hl0 hsg hsl H a b c d e
      · exact fun a n H h1 h2 h3 h4 h5 h6 h7 h8 h9 h10 h11 => refParse_n_empty l r a n w L1 L2 L3 L4 L5 hl0 hsg hsl H h1 h2 h3 h4 hrl h5 h6 h7 h8 h9 h10 h11
      · exact fun a b0 b n H h1 h2 h3 h4 h5 h6 h7 h8 h9 h10 h11 h12 h13 h14 h15 => refParse_n_down l r a b0 b n w L1 L2 L3 L4 L5 hl0 hsg hsl H h1 h2 h3 h4 hrl h5 h6 h7 h8 h9 h10 h11 h12 h13 h14 h15
      · exact fun a b0 n H h1 h2 h3 h4 h5 h6 h7 h8 h9 h11 h12 h13 h14 h15 => refParse_n_plain l r a b0 n w L1 L2 L3 L4 L5 hl0 hsg hsl H h1 h2 h3 h4 hrl h5 h6 h7 h8 h9 h11 h12 h13 h14 h15
    | false =>
      have hn : negB l = false := negB_pos hl0 hd
      have hu : unsgn l = l := by unfold unsgn; rw [hn]; rfl
      have hsg : (((bAt l 0).toNat : Int) == 45) = false := by rw [b45]; exact hd
      rw [hn, hu] at hP ⊢
      clear hq
      refine refParse_tailP false l l hl w hP ?_ ?_ ?_ ?_ ?_ ?_ ?_
      · exact fun n H => refParse_p_f1 l n w L1 L2 L3 L4 L5 hl0 hsg H
      · exact fun n H a b => refParse_p_f2 l n w L1 L2 L3 L4 L5 hl0 hsg H b
      · exact fun n H a b c => refParse_p_f3 l n w L1 L2 L3 L4 L5 hl0 hsg H b c
      · exact fun n H a b c d e => refParse_p_f4 l n w L1 L2 L3 L4 L5 hl0 hsg H b c d e
      · exact fun a n H h1 h2 h3 h4 h5 h6 h7 h8 h9 h10 h11 => refParse_p_empty l a n w L1 L2 L3 L4 L5 hl0 hsg H h2 h3 h4 hl h5 h6 h7 h8 h9 h10 h11
      · exact fun a b0 b n H h1 h2 h3 h4 h5 h6 h7 h8 h9 h10 h11 h12 h13 h14 h15 => refParse_p_down l a b0 b n w L1 L2 L3 L4 L5 hl0 hsg H h2 h3 h4 hl h5 h6 h7 h8 h9 h10 h11 h12 h13 h14 h15
      · exact fun a b0 n H h1 h2 h3 h4 h5 h6 h7 h8 h9 h11 h12 h13 h14 h15 => refParse_p_plain l a b0 n w L1 L2 L3 L4 L5 hl0 hsg H h2 h3 h4 hl h5 h6 h7 h8 h9 h11 h12 h13 h14 h15
end Go.Proofs.YtalpbphfmelhhaaGreatDoor

/-! ### What the chapter's examples fix: 'first' returns true. -/
namespace Go.Proofs.YtalpbphfmelhhaaGreatDoor
set_option maxRecDepth 100000
open Go.RowKit Go.Shelf Go.Sort
attribute [local go_sem] bs_size bs_get bs_toList
theorem Laid.drewN {w : World} (h : Laid w) (n : Nat) : Laid (w.drewN n) := h.below (below_drewN (Below.refl _ _) n)
end Go.Proofs.YtalpbphfmelhhaaGreatDoor
