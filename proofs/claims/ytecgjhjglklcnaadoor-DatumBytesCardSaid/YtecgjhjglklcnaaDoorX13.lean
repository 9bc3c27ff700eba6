/-
  The walk of datum's Get.
-/
import Derived.Test.YtecgjhjglklcnaaDoorX12
namespace Go.Proofs.YtecgjhjglklcnaaDoor
set_option maxRecDepth 100000
open Go.RowKit Go.Shelf Go.Sort
attribute [local go_sem] bs_size bs_get bs_toList frombits tobits run_store_float
/-- What Get tells, and how the reader stands behind it. -/
structure GV where
  k : Int
  x : UInt64
  s : List UInt8
  f : Int
  q : Int
  i : Nat
def getG (l : List UInt8) : GV :=
  if cE l 0 2 4 ≠ 0 then ⟨0, 0, [], cE l 0 2 4, cP l 0, 0⟩
  else if rdN (l.drop 0) = 1 then (if fE l (cN l 0) = 0 then ⟨1, fU l (cN l 0), [], 0, 0, cN l 0 + 8⟩ else ⟨0, 0, [], fE l (cN l 0), fP l (cN l 0), cN l 0⟩)
  else if rdN (l.drop 0) = 2 then (if tE l (cN l 0) = 0 then ⟨2, 0, tS l (cN l 0), 0, 0, tN l (cN l 0)⟩ else ⟨0, 0, [], tE l (cN l 0), tP l (cN l 0), cN l 0⟩)
  else ⟨0, 0, [], 0, 0, cN l 0⟩
def GetPost (w : World) (p : Nat) (a : Option Addr) (cap : Nat) (l : List UInt8) (g : GV) (e : Ending) (w' : World) : Prop :=
  e = .returned (VA g.k g.x g.s) ∧ RDone w p a cap l g.i g.f g.q w'
theorem fr_cells {p : Nat} {w w' : World} (h : Fr (IsP p) w w') {b : Nat} (hb : b < w.heap.size) (hne : b ≠ p) : (∀ o, w'.cell? ⟨b, o, none⟩ = w.cell? ⟨b, o, none⟩) ∧ (∀ o, w'.frozen? ⟨b, o, none⟩ = w.frozen? ⟨b, o, none⟩) ∧ b < w'.heap.size :=
  ⟨fun o => h.cell (p := ⟨b, o, none⟩) hb hne, fun o => h.frozen (p := ⟨b, o, none⟩) hb hne, Nat.lt_of_lt_of_le hb h.size⟩
theorem Rr.setOther {w : World} {p : Nat} {a : Option Addr} {cap : Nat} {l : List UInt8} {i f q : Int} (h : Rr w p a cap l i f q) {b : Nat} (hp : b ≠ p) (ha : ∀ c, blk a = some c → c ≠ b) (o : Nat) (v : Value) : Rr (w.setCell ⟨b, o, none⟩ v) p a cap l i f q :=
  h.keep (S := IsP b) (frP (Fr.refl _ _) _ _) (fun e => hp e.symm) (fun c hc e => ha c hc e)
theorem blk_lt {w : World} {a : Option Addr} {n cap : Nat} {l : List UInt8} (h : Rd8 w a n cap l) (hn : 0 < l.length) {b : Nat} (hb : blk a = some b) : b < w.heap.size := by
  obtain ⟨b', off, rfl, hlt, _⟩ := h.at hn
  simp only [blk, Option.map_some, Option.some.injEq] at hb
  rw [← hb]; exact hlt
/-- The result laid into a new variable. -/
theorem get_end {w W : World} {p : Nat} {a : Option Addr} {cap : Nat} {l : List UInt8} {i f q : Int} (hr : Rr W p a cap l i f q) (hf : Fr (IsP p) w W) (hne : w.heap.size ≠ p) (ha : ∀ c, blk a = some c → c < w.heap.size) (u0 u1 u2 : Value) :
    RDone w p a cap l i f q (((W.setCell ⟨w.heap.size, 0, none⟩ u0).setCell ⟨w.heap.size, 1, none⟩ u1).setCell ⟨w.heap.size, 2, none⟩ u2) := by
  have hb : ∀ c, blk a = some c → c ≠ w.heap.size := fun c hc => Nat.ne_of_lt (ha c hc)
  exact ⟨((hr.setOther hne hb _ _).setOther hne hb _ _).setOther hne hb _ _, ((hf.setCell (fun h => absurd h (Nat.lt_irrefl _)) _).setCell (fun h => absurd h (Nat.lt_irrefl _)) _).setCell (fun h => absurd h (Nat.lt_irrefl _)) _⟩
set_option maxHeartbeats 4000000 in
theorem get_A (p : Nat) (a : Option Addr) (cap : Nat) (l : List UInt8) (hl : l.length ≤ 1000000) (w : World) (h : Rr w p a cap l 0 0 0) (HBL : Hid (∀ c, blk a = some c → c < w.heap.size)) (hA : cE l 0 2 4 ≠ 0) :
    Calls Tryd.prog 39 #[.pointer (some ⟨p, 0, none⟩)] w (GetPost w p a cap l (getG l)) := by
  have HG : Hid (getG l = ⟨0, 0, [], cE l 0 2 4, cP l 0, 0⟩) := if_pos hA
  rw [HG.out]
  clear HG
  have hpl : p < w.heap.size := World.block_lt_of_cell? w _ h.1
  have hne : w.heap.size ≠ p := by omega
  have HR := Lib.hid h
  have HNE := Lib.hid hne
  have hA2 : (cE l 0 2 4 != 0) = true := by rw [bne_iff_ne]; exact hA
  have HC : Hid (∀ W, Rr W p a cap l 0 0 0 → Calls Tryd.prog 66 #[.pointer (some ⟨p, 0, none⟩), .int .i64 2] W (ChPost W p a cap l 0 0 2)) := fun W h => choice_any 2 0 p a cap l hl (Nat.zero_le _) 0 W h
  have HA := Lib.hid hA
  clear h hA
  go_enter Tryd.func39, Tryd.ntmps39
  go_wp2_with fail
  go_at_call 66
  refine (HC.out _ (HR.out.below ((Below.refl _ _).alloc (Nat.le_refl _) _))).mono (fun e w1 hp => ?_)
  obtain ⟨rfl, hd1⟩ := hp.2 HA.out
  obtain ⟨fc, ff, fl⟩ := fr_cells hd1.2 (b := w.heap.size) (by simp) hne
  have HD1 := Lib.hid hd1
  have hp1 : p < w1.heap.size := World.block_lt_of_cell? w1 _ hd1.1.1
  have HP1 := Lib.hid (show w1.heap.size ≠ p by omega)
  have HBL1 : Hid (∀ c, blk a = some c → c < w1.heap.size) := fun c hc => Nat.lt_of_lt_of_le (HBL.out c hc) (Nat.le_trans (by simp) hd1.2.size)
  clear hd1 hp
  go_wp2_with fail
  go_at_call 69
  refine (fault_any p a cap l _ _ _ _ (HD1.out.1.below ((Below.refl _ _).alloc (Nat.le_refl _) _))).mono ?_
  rintro e w2 ⟨rfl, nd, rfl⟩
  go_wp2_with fail
  exact bodyPost_ret (v := VA 0 0 []) (by simp [results, Tryd.results39, go_sem, VA, fc, fl] <;> first | rfl | exact ⟨rfl, rfl⟩ | exact ⟨rfl, rfl, rfl⟩ | skip) rfl ⟨rfl, get_end (HRD0 (HD1.out.1.below ((Below.refl _ _).alloc (Nat.le_refl _) _)) _) ((((Fr.of_new ((Below.refl _ _).alloc (Nat.le_refl _) _)).trans HD1.out.2).alloc _).drewN _) HNE.out HBL.out _ _ _⟩
set_option maxHeartbeats 4000000 in
theorem get_B (p : Nat) (a : Option Addr) (cap : Nat) (l : List UInt8) (hl : l.length ≤ 1000000) (w : World) (h : Rr w p a cap l 0 0 0) (HBL : Hid (∀ c, blk a = some c → c < w.heap.size)) (hA : cE l 0 2 4 = 0) (hk : rdN (l.drop 0) = 0) :
    Calls Tryd.prog 39 #[.pointer (some ⟨p, 0, none⟩)] w (GetPost w p a cap l (getG l)) := by
  have HG : Hid (getG l = ⟨0, 0, [], 0, 0, cN l 0⟩) := by unfold getG; rw [if_neg (by simp [hA]), hk, if_neg (by decide), if_neg (by decide)]; exact rfl
  rw [HG.out]
  clear HG
  have hpl : p < w.heap.size := World.block_lt_of_cell? w _ h.1
  have hne : w.heap.size ≠ p := by omega
  have HR := Lib.hid h
  have HNE := Lib.hid hne
  have HCN : Hid (cN l 0 ≤ l.length) := cN_le (Nat.zero_le _) (cE_bd (by decide) hA).1
  have HK := Lib.hid hk
  clear hk
  have HC : Hid (∀ W, Rr W p a cap l 0 0 0 → Calls Tryd.prog 66 #[.pointer (some ⟨p, 0, none⟩), .int .i64 2] W (ChPost W p a cap l 0 0 2)) := fun W h => choice_any 2 0 p a cap l hl (Nat.zero_le _) 0 W h
  have HA := Lib.hid hA
  clear h hA
  go_enter Tryd.func39, Tryd.ntmps39
  go_wp2_with fail
  go_at_call 66
  refine (HC.out _ (HR.out.below ((Below.refl _ _).alloc (Nat.le_refl _) _))).mono (fun e w1 hp => ?_)
  obtain ⟨rfl, hd1⟩ := hp.1 HA.out
  rw [HK.out]
  obtain ⟨fc, ff, fl⟩ := fr_cells hd1.2 (b := w.heap.size) (by simp) hne
  have HD1 := Lib.hid hd1
  have hp1 : p < w1.heap.size := World.block_lt_of_cell? w1 _ hd1.1.1
  have hP1 : w1.heap.size ≠ p := by omega
  have HP1 := Lib.hid hP1
  have HBL1 : Hid (∀ c, blk a = some c → c < w1.heap.size) := fun c hc => Nat.lt_of_lt_of_le (HBL.out c hc) (Nat.le_trans (by simp) hd1.2.size)
  clear hd1 hp
  go_wp2_with fail
  go_at_call 69
  refine (fault_any p a cap l _ _ _ _ (HD1.out.1.below ((Below.refl _ _).alloc (Nat.le_refl _) _))).mono ?_
  rintro e w3 ⟨rfl, nd, rfl⟩
  go_wp2_with fail
  exact bodyPost_ret (v := VA 0 0 []) (by simp [results, Tryd.results39, go_sem, VA, fc, fl] <;> first | rfl | exact ⟨rfl, rfl⟩ | exact ⟨rfl, rfl, rfl⟩ | skip) rfl ⟨rfl, get_end (HRD0 (HD1.out.1.below ((Below.refl _ _).alloc (Nat.le_refl _) _)) _) (((((Fr.of_new ((Below.refl _ _).alloc (Nat.le_refl _) _)).trans HD1.out.2).alloc _)).drewN _) HNE.out HBL.out _ _ _⟩
set_option maxHeartbeats 4000000 in
theorem get_C1 (p : Nat) (a : Option Addr) (cap : Nat) (l : List UInt8) (hl : l.length ≤ 1000000) (w : World) (h : Rr w p a cap l 0 0 0) (HBL : Hid (∀ c, blk a = some c → c < w.heap.size)) (hA : cE l 0 2 4 = 0) (hk : rdN (l.drop 0) = 1) (hX : fE l (cN l 0) = 0) :
    Calls Tryd.prog 39 #[.pointer (some ⟨p, 0, none⟩)] w (GetPost w p a cap l (getG l)) := by
  have HG : Hid (getG l = ⟨1, fU l (cN l 0), [], 0, 0, cN l 0 + 8⟩) := by unfold getG; rw [if_neg (by simp [hA]), hk, if_pos rfl, if_pos hX]; exact rfl
  rw [HG.out]
  clear HG
  have hpl : p < w.heap.size := World.block_lt_of_cell? w _ h.1
  have hne : w.heap.size ≠ p := by omega
  have HR := Lib.hid h
  have HNE := Lib.hid hne
  have HCN : Hid (cN l 0 ≤ l.length) := cN_le (Nat.zero_le _) (cE_bd (by decide) hA).1
  have HK := Lib.hid hk
  clear hk
  have HC : Hid (∀ W, Rr W p a cap l 0 0 0 → Calls Tryd.prog 66 #[.pointer (some ⟨p, 0, none⟩), .int .i64 2] W (ChPost W p a cap l 0 0 2)) := fun W h => choice_any 2 0 p a cap l hl (Nat.zero_le _) 0 W h
  have HA := Lib.hid hA
  clear h hA
  have HX := Lib.hid hX
  clear hX
  go_enter Tryd.func39, Tryd.ntmps39
  go_wp2_with fail
  go_at_call 66
  refine (HC.out _ (HR.out.below ((Below.refl _ _).alloc (Nat.le_refl _) _))).mono (fun e w1 hp => ?_)
  obtain ⟨rfl, hd1⟩ := hp.1 HA.out
  rw [HK.out]
  obtain ⟨fc, ff, fl⟩ := fr_cells hd1.2 (b := w.heap.size) (by simp) hne
  have HD1 := Lib.hid hd1
  have hp1 : p < w1.heap.size := World.block_lt_of_cell? w1 _ hd1.1.1
  have hP1 : w1.heap.size ≠ p := by omega
  have HP1 := Lib.hid hP1
  have HBL1 : Hid (∀ c, blk a = some c → c < w1.heap.size) := fun c hc => Nat.lt_of_lt_of_le (HBL.out c hc) (Nat.le_trans (by simp) hd1.2.size)
  clear hd1 hp
  go_wp2_with fail
  go_at_call 67
  refine (float_any (cN l 0) p a cap l hl HCN.out 0 _ (HD1.out.1.below ((Below.refl _ _).alloc (Nat.le_refl _) _))).mono (fun e w2 hp => ?_)
  obtain ⟨rfl, hd2⟩ := hp.1 HX.out
  obtain ⟨fc2, ff2, fl2⟩ := fr_cells hd2.2 (b := w.heap.size) (by simp; omega) hne
  obtain ⟨fc3, ff3, fl3⟩ := fr_cells hd2.2 (b := w1.heap.size) (by simp) hP1
  have HD2 := Lib.hid hd2
  have HSZ : Hid (w.heap.size ≤ w1.heap.size) := Nat.le_of_lt fl
  clear hd2 hp
  go_wp2_with fail
  go_at_call 69
  refine (fault_any p a cap l _ _ _ _ (HD2.out.1.setOther HP1.out (fun c hc => Nat.ne_of_lt (HBL1.out c hc)) _ _)).mono ?_
  rintro e w3 ⟨rfl, nd, rfl⟩
  go_wp2_with fail
  exact bodyPost_ret (v := VA 1 (fU l (cN l 0)) []) (by simp [results, Tryd.results39, go_sem, VA, fc2, fc, fl] <;> first | rfl | exact ⟨rfl, rfl⟩ | exact ⟨rfl, rfl, rfl⟩ | skip) rfl ⟨rfl, get_end (HRD0 (HD2.out.1.setOther HP1.out (fun c hc => Nat.ne_of_lt (HBL1.out c hc)) _ _) _) ((((((Fr.of_new ((Below.refl _ _).alloc (Nat.le_refl _) _)).trans HD1.out.2).alloc _).trans HD2.out.2).setCell (fun h => absurd h (Nat.not_lt.2 HSZ.out)) _).drewN _) HNE.out HBL.out _ _ _⟩
set_option maxHeartbeats 4000000 in
theorem get_C0 (p : Nat) (a : Option Addr) (cap : Nat) (l : List UInt8) (hl : l.length ≤ 1000000) (w : World) (h : Rr w p a cap l 0 0 0) (HBL : Hid (∀ c, blk a = some c → c < w.heap.size)) (hA : cE l 0 2 4 = 0) (hk : rdN (l.drop 0) = 1) (hX : fE l (cN l 0) ≠ 0) :
    Calls Tryd.prog 39 #[.pointer (some ⟨p, 0, none⟩)] w (GetPost w p a cap l (getG l)) := by
  have HG : Hid (getG l = ⟨0, 0, [], fE l (cN l 0), fP l (cN l 0), cN l 0⟩) := by unfold getG; rw [if_neg (by simp [hA]), hk, if_pos rfl, if_neg hX]; exact rfl
  rw [HG.out]
  clear HG
  have hpl : p < w.heap.size := World.block_lt_of_cell? w _ h.1
  have hne : w.heap.size ≠ p := by omega
  have HR := Lib.hid h
  have HNE := Lib.hid hne
  have HCN : Hid (cN l 0 ≤ l.length) := cN_le (Nat.zero_le _) (cE_bd (by decide) hA).1
  have HK := Lib.hid hk
  clear hk
  have HC : Hid (∀ W, Rr W p a cap l 0 0 0 → Calls Tryd.prog 66 #[.pointer (some ⟨p, 0, none⟩), .int .i64 2] W (ChPost W p a cap l 0 0 2)) := fun W h => choice_any 2 0 p a cap l hl (Nat.zero_le _) 0 W h
  have HA := Lib.hid hA
  clear h hA
  have hX2 : (fE l (cN l 0) != 0) = true := by rw [bne_iff_ne]; exact hX
  have HX := Lib.hid hX
  clear hX
  go_enter Tryd.func39, Tryd.ntmps39
  go_wp2_with fail
  go_at_call 66
  refine (HC.out _ (HR.out.below ((Below.refl _ _).alloc (Nat.le_refl _) _))).mono (fun e w1 hp => ?_)
  obtain ⟨rfl, hd1⟩ := hp.1 HA.out
  rw [HK.out]
  obtain ⟨fc, ff, fl⟩ := fr_cells hd1.2 (b := w.heap.size) (by simp) hne
  have HD1 := Lib.hid hd1
  have hp1 : p < w1.heap.size := World.block_lt_of_cell? w1 _ hd1.1.1
  have hP1 : w1.heap.size ≠ p := by omega
  have HP1 := Lib.hid hP1
  have HBL1 : Hid (∀ c, blk a = some c → c < w1.heap.size) := fun c hc => Nat.lt_of_lt_of_le (HBL.out c hc) (Nat.le_trans (by simp) hd1.2.size)
  clear hd1 hp
  go_wp2_with fail
  go_at_call 67
  refine (float_any (cN l 0) p a cap l hl HCN.out 0 _ (HD1.out.1.below ((Below.refl _ _).alloc (Nat.le_refl _) _))).mono (fun e w2 hp => ?_)
  obtain ⟨rfl, hd2⟩ := hp.2 HX.out
  obtain ⟨fc2, ff2, fl2⟩ := fr_cells hd2.2 (b := w.heap.size) (by simp; omega) hne
  obtain ⟨fc3, ff3, fl3⟩ := fr_cells hd2.2 (b := w1.heap.size) (by simp) hP1
  have HD2 := Lib.hid hd2
  have HSZ : Hid (w.heap.size ≤ w1.heap.size) := Nat.le_of_lt fl
  clear hd2 hp
  go_wp2_with fail
  go_at_call 69
  refine (fault_any p a cap l _ _ _ _ (HD2.out.1.setOther HP1.out (fun c hc => Nat.ne_of_lt (HBL1.out c hc)) _ _)).mono ?_
  rintro e w3 ⟨rfl, nd, rfl⟩
  go_wp2_with fail
  exact bodyPost_ret (v := VA 0 0 []) (by simp [results, Tryd.results39, go_sem, VA, fc2, fc, fl] <;> first | rfl | exact ⟨rfl, rfl⟩ | exact ⟨rfl, rfl, rfl⟩ | skip) rfl ⟨rfl, get_end (HRD0 (HD2.out.1.setOther HP1.out (fun c hc => Nat.ne_of_lt (HBL1.out c hc)) _ _) _) ((((((Fr.of_new ((Below.refl _ _).alloc (Nat.le_refl _) _)).trans HD1.out.2).alloc _).trans HD2.out.2).setCell (fun h => absurd h (Nat.not_lt.2 HSZ.out)) _).drewN _) HNE.out HBL.out _ _ _⟩
set_option maxHeartbeats 4000000 in
theorem get_D1 (p : Nat) (a : Option Addr) (cap : Nat) (l : List UInt8) (hl : l.length ≤ 1000000) (w : World) (h : Rr w p a cap l 0 0 0) (HBL : Hid (∀ c, blk a = some c → c < w.heap.size)) (hA : cE l 0 2 4 = 0) (hk : rdN (l.drop 0) = 2) (hX : tE l (cN l 0) = 0) :
    Calls Tryd.prog 39 #[.pointer (some ⟨p, 0, none⟩)] w (GetPost w p a cap l (getG l)) := by
  have HG : Hid (getG l = ⟨2, 0, tS l (cN l 0), 0, 0, tN l (cN l 0)⟩) := by unfold getG; rw [if_neg (by simp [hA]), hk, if_neg (by decide), if_pos rfl, if_pos hX]; exact rfl
  rw [HG.out]
  clear HG
  have hpl : p < w.heap.size := World.block_lt_of_cell? w _ h.1
  have hne : w.heap.size ≠ p := by omega
  have HR := Lib.hid h
  have HNE := Lib.hid hne
  have HCN : Hid (cN l 0 ≤ l.length) := cN_le (Nat.zero_le _) (cE_bd (by decide) hA).1
  have HK := Lib.hid hk
  clear hk
  have HC : Hid (∀ W, Rr W p a cap l 0 0 0 → Calls Tryd.prog 66 #[.pointer (some ⟨p, 0, none⟩), .int .i64 2] W (ChPost W p a cap l 0 0 2)) := fun W h => choice_any 2 0 p a cap l hl (Nat.zero_le _) 0 W h
  have HA := Lib.hid hA
  clear h hA
  have HX := Lib.hid hX
  clear hX
  go_enter Tryd.func39, Tryd.ntmps39
  go_wp2_with fail
  go_at_call 66
  refine (HC.out _ (HR.out.below ((Below.refl _ _).alloc (Nat.le_refl _) _))).mono (fun e w1 hp => ?_)
  obtain ⟨rfl, hd1⟩ := hp.1 HA.out
  rw [HK.out]
  obtain ⟨fc, ff, fl⟩ := fr_cells hd1.2 (b := w.heap.size) (by simp) hne
  have HD1 := Lib.hid hd1
  have hp1 : p < w1.heap.size := World.block_lt_of_cell? w1 _ hd1.1.1
  have hP1 : w1.heap.size ≠ p := by omega
  have HP1 := Lib.hid hP1
  have HBL1 : Hid (∀ c, blk a = some c → c < w1.heap.size) := fun c hc => Nat.lt_of_lt_of_le (HBL.out c hc) (Nat.le_trans (by simp) hd1.2.size)
  clear hd1 hp
  go_wp2_with fail
  go_at_call 68
  refine (text_any (cN l 0) p a cap l hl HCN.out 0 _ (HD1.out.1.below ((Below.refl _ _).alloc (Nat.le_refl _) _))).mono (fun e w2 hp => ?_)
  obtain ⟨rfl, hd2⟩ := hp.1 HX.out
  obtain ⟨fc2, ff2, fl2⟩ := fr_cells hd2.2 (b := w.heap.size) (by simp; omega) hne
  obtain ⟨fc3, ff3, fl3⟩ := fr_cells hd2.2 (b := w1.heap.size) (by simp) hP1
  have HD2 := Lib.hid hd2
  have HSZ : Hid (w.heap.size ≤ w1.heap.size) := Nat.le_of_lt fl
  clear hd2 hp
  go_wp2_with fail
  go_at_call 69
  refine (fault_any p a cap l _ _ _ _ (HD2.out.1.setOther HP1.out (fun c hc => Nat.ne_of_lt (HBL1.out c hc)) _ _)).mono ?_
  rintro e w3 ⟨rfl, nd, rfl⟩
  go_wp2_with fail
  exact bodyPost_ret (v := VA 2 0 (tS l (cN l 0))) (by simp [results, Tryd.results39, go_sem, VA, fc2, fc, fl] <;> first | rfl | exact ⟨rfl, rfl⟩ | exact ⟨rfl, rfl, rfl⟩ | skip) rfl ⟨rfl, get_end (HRD0 (HD2.out.1.setOther HP1.out (fun c hc => Nat.ne_of_lt (HBL1.out c hc)) _ _) _) ((((((Fr.of_new ((Below.refl _ _).alloc (Nat.le_refl _) _)).trans HD1.out.2).alloc _).trans HD2.out.2).setCell (fun h => absurd h (Nat.not_lt.2 HSZ.out)) _).drewN _) HNE.out HBL.out _ _ _⟩
set_option maxHeartbeats 4000000 in
theorem get_D0 (p : Nat) (a : Option Addr) (cap : Nat) (l : List UInt8) (hl : l.length ≤ 1000000) (w : World) (h : Rr w p a cap l 0 0 0) (HBL : Hid (∀ c, blk a = some c → c < w.heap.size)) (hA : cE l 0 2 4 = 0) (hk : rdN (l.drop 0) = 2) (hX : tE l (cN l 0) ≠ 0) :
    Calls Tryd.prog 39 #[.pointer (some ⟨p, 0, none⟩)] w (GetPost w p a cap l (getG l)) := by
  have HG : Hid (getG l = ⟨0, 0, [], tE l (cN l 0), tP l (cN l 0), cN l 0⟩) := by unfold getG; rw [if_neg (by simp [hA]), hk, if_neg (by decide), if_pos rfl, if_neg hX]; exact rfl
  rw [HG.out]
  clear HG
  have hpl : p < w.heap.size := World.block_lt_of_cell? w _ h.1
  have hne : w.heap.size ≠ p := by omega
  have HR := Lib.hid h
  have HNE := Lib.hid hne
  have HCN : Hid (cN l 0 ≤ l.length) := cN_le (Nat.zero_le _) (cE_bd (by decide) hA).1
  have HK := Lib.hid hk
  clear hk
  have HC : Hid (∀ W, Rr W p a cap l 0 0 0 → Calls Tryd.prog 66 #[.pointer (some ⟨p, 0, none⟩), .int .i64 2] W (ChPost W p a cap l 0 0 2)) := fun W h => choice_any 2 0 p a cap l hl (Nat.zero_le _) 0 W h
  have HA := Lib.hid hA
  clear h hA
  have hX2 : (tE l (cN l 0) != 0) = true := by rw [bne_iff_ne]; exact hX
  have HX := Lib.hid hX
  clear hX
  go_enter Tryd.func39, Tryd.ntmps39
  go_wp2_with fail
  go_at_call 66
  refine (HC.out _ (HR.out.below ((Below.refl _ _).alloc (Nat.le_refl _) _))).mono (fun e w1 hp => ?_)
  obtain ⟨rfl, hd1⟩ := hp.1 HA.out
  rw [HK.out]
  obtain ⟨fc, ff, fl⟩ := fr_cells hd1.2 (b := w.heap.size) (by simp) hne
  have HD1 := Lib.hid hd1
  have hp1 : p < w1.heap.size := World.block_lt_of_cell? w1 _ hd1.1.1
  have hP1 : w1.heap.size ≠ p := by omega
  have HP1 := Lib.hid hP1
  have HBL1 : Hid (∀ c, blk a = some c → c < w1.heap.size) := fun c hc => Nat.lt_of_lt_of_le (HBL.out c hc) (Nat.le_trans (by simp) hd1.2.size)
  clear hd1 hp
  go_wp2_with fail
  go_at_call 68
  refine (text_any (cN l 0) p a cap l hl HCN.out 0 _ (HD1.out.1.below ((Below.refl _ _).alloc (Nat.le_refl _) _))).mono (fun e w2 hp => ?_)
  obtain ⟨rfl, hd2⟩ := hp.2 HX.out
  obtain ⟨fc2, ff2, fl2⟩ := fr_cells hd2.2 (b := w.heap.size) (by simp; omega) hne
  obtain ⟨fc3, ff3, fl3⟩ := fr_cells hd2.2 (b := w1.heap.size) (by simp) hP1
  have HD2 := Lib.hid hd2
  have HSZ : Hid (w.heap.size ≤ w1.heap.size) := Nat.le_of_lt fl
  clear hd2 hp
  go_wp2_with fail
  go_at_call 69
  refine (fault_any p a cap l _ _ _ _ (HD2.out.1.setOther HP1.out (fun c hc => Nat.ne_of_lt (HBL1.out c hc)) _ _)).mono ?_
  rintro e w3 ⟨rfl, nd, rfl⟩
  go_wp2_with fail
  exact bodyPost_ret (v := VA 0 0 []) (by simp [results, Tryd.results39, go_sem, VA, fc2, fc, fl] <;> first | rfl | exact ⟨rfl, rfl⟩ | exact ⟨rfl, rfl, rfl⟩ | skip) rfl ⟨rfl, get_end (HRD0 (HD2.out.1.setOther HP1.out (fun c hc => Nat.ne_of_lt (HBL1.out c hc)) _ _) _) ((((((Fr.of_new ((Below.refl _ _).alloc (Nat.le_refl _) _)).trans HD1.out.2).alloc _).trans HD2.out.2).setCell (fun h => absurd h (Nat.not_lt.2 HSZ.out)) _).drewN _) HNE.out HBL.out _ _ _⟩
theorem get_any (p : Nat) (a : Option Addr) (cap : Nat) (l : List UInt8) (hl : l.length ≤ 1000000) (w : World) (h : Rr w p a cap l 0 0 0) (HBL : ∀ c, blk a = some c → c < w.heap.size) :
    Calls Tryd.prog 39 #[.pointer (some ⟨p, 0, none⟩)] w (GetPost w p a cap l (getG l)) := by
  by_cases hA : cE l 0 2 4 = 0
  · have hb := cE_bd (by decide) hA
    have hk : rdN (l.drop 0) = 0 ∨ rdN (l.drop 0) = 1 ∨ rdN (l.drop 0) = 2 := by have := hb.2; omega
    rcases hk with hk | hk | hk
    · exact get_B p a cap l hl w h HBL hA hk
    · by_cases hX : fE l (cN l 0) = 0
      · exact get_C1 p a cap l hl w h HBL hA hk hX
      · exact get_C0 p a cap l hl w h HBL hA hk hX
    · by_cases hX : tE l (cN l 0) = 0
      · exact get_D1 p a cap l hl w h HBL hA hk hX
      · exact get_D0 p a cap l hl w h HBL hA hk hX
  · exact get_A p a cap l hl w h HBL hA
end Go.Proofs.YtecgjhjglklcnaaDoor
