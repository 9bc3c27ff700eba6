/-
  Plain laws: marks (chapter 21): which may be, their bytes, what bytes are read as. No program in sight.
-/
import Derived.Test.YtkinhilkmjfjhaaGreatMZ
namespace Go.Proofs.YtkinhilkmjfjhaaGreat
set_option maxRecDepth 100000
open Go.RowKit

/-- A mark: its stamp, its tails. -/
structure Mk where
  wall : Int
  logi : Int
  node : Int
  ts : List (Int × Int)
def mk0 : Mk := ⟨0, 0, 0, []⟩
def hiB (m : Mk) : Bool := decide (0 ≤ m.wall ∧ m.wall ≤ 281474976710656 ∧ 0 ≤ m.logi ∧ m.logi ≤ 65535 ∧ 0 ≤ m.node ∧ m.node ≤ 63)
def badAt (ts : List (Int × Int)) (i : Nat) : Prop :=
  (ts.getD i (0, 0)).1 < 1 ∨ 12 < (ts.getD i (0, 0)).1 ∨ (ts.getD i (0, 0)).2 < 1 ∨ 100000000 < (ts.getD i (0, 0)).2 ∨ 0 < i ∧ (ts.getD i (0, 0)).1 ≤ (ts.getD (i - 1) (0, 0)).1
instance (ts : List (Int × Int)) (i : Nat) : Decidable (badAt ts i) := by unfold badAt; exact inferInstance
def mayTs (ts : List (Int × Int)) : Bool := (List.range ts.length).all fun i => !decide (badAt ts i)
def mayM (m : Mk) : Bool := hiB m && mayTs m.ts
theorem mayTs_iff (ts : List (Int × Int)) : mayTs ts = true ↔ ∀ i, i < ts.length → ¬ badAt ts i := by
  unfold mayTs; rw [List.all_eq_true]
  constructor
  · intro h i hi
    have := h i (List.mem_range.2 hi); simpa using this
  · intro h i hi
    have := h i (List.mem_range.1 hi); simpa using this
theorem mayTs_false {ts : List (Int × Int)} {i : Nat} (hi : i < ts.length) (h : badAt ts i) : mayTs ts = false := by
  cases he : mayTs ts with
  | false => rfl
  | true => exact absurd h ((mayTs_iff ts).1 he i hi)
theorem may_hi {m : Mk} (h : mayM m = true) : hiB m = true ∧ mayTs m.ts = true := by unfold mayM at h; simpa using h
theorem may_hb {m : Mk} (h : mayM m = true) : 0 ≤ m.wall ∧ m.wall ≤ 281474976710656 ∧ 0 ≤ m.logi ∧ m.logi ≤ 65535 ∧ 0 ≤ m.node ∧ m.node ≤ 63 := by
  have := (may_hi h).1; unfold hiB at this; simpa using this
theorem may_at {m : Mk} (h : mayM m = true) {i : Nat} (hi : i < m.ts.length) : ¬ badAt m.ts i := (mayTs_iff _).1 (may_hi h).2 i hi
theorem may_bd {m : Mk} (h : mayM m = true) : ∀ c ∈ m.ts, 1 ≤ c.1 ∧ c.1 ≤ 12 ∧ 1 ≤ c.2 ∧ c.2 ≤ 100000000 := by
  intro c hc
  obtain ⟨i, hi, rfl⟩ := List.mem_iff_getElem.1 hc
  have h1 := may_at h hi
  unfold badAt at h1
  have e : m.ts.getD i (0, 0) = m.ts[i] := by simp [List.getD, hi]
  rw [e] at h1; omega
theorem may_grow {m : Mk} (h : mayM m = true) : ∀ i, i < m.ts.length → (i : Int) + 1 ≤ (m.ts.getD i (0, 0)).1
  | 0, hi => by have := may_at h hi; unfold badAt at this; omega
  | i + 1, hi => by
    have h1 := may_at h hi
    have h2 := may_grow h i (by omega)
    unfold badAt at h1
    rw [Nat.add_sub_cancel] at h1; omega
theorem may_len {m : Mk} (h : mayM m = true) : m.ts.length ≤ 12 := by
  by_cases h0 : m.ts.length = 0
  · omega
  · have h1 := may_grow h (m.ts.length - 1) (by omega)
    have h2 := may_at h (i := m.ts.length - 1) (by omega)
    unfold badAt at h2
    omega

/-- A mark's bytes. -/
def encT (ts : List (Int × Int)) : List UInt8 := ts.flatMap fun c => intB c.1 ++ intB c.2
def encM (m : Mk) : List UInt8 := intB m.wall ++ intB m.logi ++ intB m.node ++ intB (m.ts.length : Nat) ++ encT m.ts
theorem intB_len (n : Int) (h0 : -9223372036854775808 ≤ n) (h1 : n ≤ 9223372036854775807) : (intB n).length ≤ 10 := encU_len64 _ (zz_lt h0 h1)
theorem encT_len : ∀ (ts : List (Int × Int)), (∀ c ∈ ts, 1 ≤ c.1 ∧ c.1 ≤ 12 ∧ 1 ≤ c.2 ∧ c.2 ≤ 100000000) → (encT ts).length ≤ 20 * ts.length
  | [], _ => by simp [encT]
  | c :: r, h => by
    have h1 := h c (by simp)
    have h2 := encT_len r fun c hc => h c (by simp [hc])
    have h3 := intB_len c.1 (by omega) (by omega)
    have h4 := intB_len c.2 (by omega) (by omega)
    unfold encT at h2 ⊢
    rw [List.flatMap_cons, List.length_append, List.length_append, List.length_cons]; omega
theorem encM_len {m : Mk} (h : mayM m = true) : (encM m).length ≤ 280 := by
  have h1 := may_hb h
  have h2 := may_len h
  have h3 := encT_len m.ts (may_bd h)
  have a1 := intB_len m.wall (by omega) (by omega)
  have a2 := intB_len m.logi (by omega) (by omega)
  have a3 := intB_len m.node (by omega) (by omega)
  have a4 := intB_len (m.ts.length : Nat) (by omega) (by omega)
  unfold encM
  rw [List.length_append, List.length_append, List.length_append, List.length_append]; omega
theorem encT_next {ts : List (Int × Int)} {k : Nat} {c : Int × Int} (h : ts[k]? = some c) : encT (ts.take (k + 1)) = encT (ts.take k) ++ intB c.1 ++ intB c.2 := by
  rw [List.take_add_one, h]; simp [encT]

/-! ### a reader's way -/
structure RS where
  i : Nat
  f : Int
  q : Int
def nxI (l : List UInt8) (s : RS) : RS := if s.f ≠ 0 then s else if rdE (l.drop s.i) = 0 then ⟨cN l s.i, 0, s.q⟩ else ⟨s.i, rdE (l.drop s.i), cP l s.i⟩
def vlI (l : List UInt8) (s : RS) : Int := if s.f ≠ 0 then 0 else rdN (l.drop s.i)
def nxC (l : List UInt8) (most : Int) (s : RS) : RS := if s.f ≠ 0 then s else if cE l s.i most 3 = 0 then ⟨cN l s.i, 0, s.q⟩ else ⟨s.i, cE l s.i most 3, cP l s.i⟩
def vlC (l : List UInt8) (most : Int) (s : RS) : Int := if s.f ≠ 0 then 0 else if cE l s.i most 3 = 0 then rdN (l.drop s.i) else 0
/-- A reader's place lies within. -/
def RIn (l : List UInt8) (s : RS) : Prop := s.i ≤ l.length ∧ (s.f = 0 → s.q = 0)
theorem rin0 (l : List UInt8) : RIn l ⟨0, 0, 0⟩ := ⟨Nat.zero_le _, fun _ => rfl⟩
theorem RIn.nxI {l : List UInt8} {s : RS} (h : RIn l s) : RIn l (nxI l s) := by
  unfold Go.Proofs.YtkinhilkmjfjhaaGreat.nxI
  split
  · exact h
  · rename_i hf
    have hf : s.f = 0 := by omega
    split
    · exact ⟨cN_le h.1 ‹_›, fun _ => h.2 hf⟩
    · exact ⟨h.1, fun h0 => absurd h0 ‹_›⟩
theorem cE_rd {l : List UInt8} {i : Nat} {most ab : Int} (hab : ab ≠ 0) (h : cE l i most ab = 0) : rdE (l.drop i) = 0 ∧ 0 ≤ rdN (l.drop i) ∧ rdN (l.drop i) ≤ most := cE_bd hab h
theorem RIn.nxC {l : List UInt8} {most : Int} {s : RS} (h : RIn l s) : RIn l (nxC l most s) := by
  unfold Go.Proofs.YtkinhilkmjfjhaaGreat.nxC
  split
  · exact h
  · rename_i hf
    have hf : s.f = 0 := by omega
    split
    · exact ⟨cN_le h.1 (cE_rd (ab := 3) (by decide) ‹_›).1, fun _ => h.2 hf⟩
    · exact ⟨h.1, fun h0 => absurd h0 ‹_›⟩
def curS (l : List UInt8) (s0 : RS) : Nat → RS
  | 0 => s0
  | k + 1 => nxI l (nxI l (curS l s0 k))
def curs (l : List UInt8) (s0 : RS) : Nat → List (Int × Int)
  | 0 => []
  | k + 1 => curs l s0 k ++ [(vlI l (curS l s0 k), vlI l (nxI l (curS l s0 k)))]
theorem curs_len (l : List UInt8) (s0 : RS) : ∀ k, (curs l s0 k).length = k
  | 0 => rfl
  | k + 1 => by rw [curs, List.length_append, curs_len l s0 k]; rfl
theorem RIn.curS {l : List UInt8} {s : RS} (h : RIn l s) : ∀ k, RIn l (curS l s k)
  | 0 => h
  | k + 1 => (h.curS k).nxI.nxI
theorem nxI_bad {l : List UInt8} {s : RS} (h : s.f ≠ 0) : nxI l s = s := by unfold nxI; rw [if_pos h]
theorem curS_bad {l : List UInt8} {s0 : RS} {j : Nat} (h : (curS l s0 j).f ≠ 0) : ∀ d, curS l s0 (j + d) = curS l s0 j
  | 0 => rfl
  | d + 1 => by
    show nxI l (nxI l (curS l s0 (j + d))) = _
    rw [curS_bad h d, nxI_bad h, nxI_bad h]
theorem nxI_ok {l : List UInt8} {s : RS} (h : (nxI l s).f = 0) : s.f = 0 ∧ rdE (l.drop s.i) = 0 := by
  unfold nxI at h
  split at h
  · exact absurd h ‹_›
  · split at h
    · exact ⟨by omega, ‹_›⟩
    · exact absurd h ‹_›
def rs1 (l : List UInt8) : RS := nxI l ⟨0, 0, 0⟩
def rs2 (l : List UInt8) : RS := nxI l (rs1 l)
def rs3 (l : List UInt8) : RS := nxI l (rs2 l)
def rs4 (l : List UInt8) : RS := nxC l 12 (rs3 l)
def rdK (l : List UInt8) : Nat := (vlC l 12 (rs3 l)).toNat
def rdM (l : List UInt8) : Mk := ⟨vlI l ⟨0, 0, 0⟩, vlI l (rs1 l), vlI l (rs2 l), curs l (rs4 l) (rdK l)⟩
def rsF (l : List UInt8) : RS := curS l (rs4 l) (rdK l)
theorem vlC_bd (l : List UInt8) (s : RS) : 0 ≤ vlC l 12 s ∧ vlC l 12 s ≤ 12 := by
  unfold vlC
  split
  · omega
  · split
    · exact ⟨(cE_rd (ab := 3) (by decide) ‹_›).2.1, (cE_rd (ab := 3) (by decide) ‹_›).2.2⟩
    · omega
theorem rdK_le (l : List UInt8) : rdK l ≤ 12 := by have := vlC_bd l (rs3 l); unfold rdK; omega
theorem rdK_val (l : List UInt8) : vlC l 12 (rs3 l) = (rdK l : Nat) := by have := vlC_bd l (rs3 l); unfold rdK; omega
theorem rin1 (l : List UInt8) : RIn l (rs1 l) := (rin0 l).nxI
theorem rin2 (l : List UInt8) : RIn l (rs2 l) := (rin1 l).nxI
theorem rin3 (l : List UInt8) : RIn l (rs3 l) := (rin2 l).nxI
theorem rin4 (l : List UInt8) : RIn l (rs4 l) := (rin3 l).nxC
theorem rinF (l : List UInt8) : RIn l (rsF l) := (rin4 l).curS _
/-- All was read, and it may be. -/
def okL (l : List UInt8) : Bool := decide ((rsF l).f = 0) && !decide ((rsF l).i < l.length) && mayM (rdM l)

/-! ### there and back -/
theorem rd_back {m : List UInt8} (h : rdE m = 0) : m.take (endOf m + 1) = intB (rdN m) := by
  have hN : rdN m = unzz (valU (grp m)) := by unfold rdN; rw [if_pos h]
  unfold rdE at h
  split at h
  · cases h
  · split at h
    · rename_i hg
      have hv : valU (grp m) % 18446744073709551616 = valU (grp m) := by
        have := congrArg valU hg
        rwa [valU_enc] at this
      show grp m = _
      rw [hN]; unfold intB
      rw [zz_unzz, ← hv, hg]
    · cases h
theorem take_rd {l : List UInt8} {i : Nat} (h : rdE (l.drop i) = 0) : l.take (cN l i) = l.take i ++ intB (rdN (l.drop i)) := by
  unfold cN
  rw [List.take_add, rd_back h]
theorem take_nxI {l : List UInt8} {s : RS} (h : (nxI l s).f = 0) : l.take (nxI l s).i = l.take s.i ++ intB (vlI l s) := by
  obtain ⟨h1, h2⟩ := nxI_ok h
  unfold nxI vlI
  rw [if_neg (by omega), if_pos h2, if_neg (by omega)]
  exact take_rd h2
theorem take_nxC {l : List UInt8} {s : RS} (h : (nxC l 12 s).f = 0) : s.f = 0 ∧ l.take (nxC l 12 s).i = l.take s.i ++ intB (vlC l 12 s) := by
  unfold nxC at h
  split at h
  · exact absurd h ‹_›
  · split at h
    · rename_i hf hc
      refine ⟨by omega, ?_⟩
      unfold nxC vlC
      rw [if_neg hf, if_pos hc, if_neg hf, if_pos hc]
      exact take_rd (cE_rd (by decide) hc).1
    · exact absurd h ‹_›
theorem take_curS {l : List UInt8} {s0 : RS} : ∀ k, (curS l s0 k).f = 0 → s0.f = 0 ∧ l.take (curS l s0 k).i = l.take s0.i ++ encT (curs l s0 k)
  | 0, h => ⟨h, by simp [curS, curs, encT]⟩
  | k + 1, h => by
    have h' : (nxI l (nxI l (curS l s0 k))).f = 0 := h
    have h1 := (nxI_ok h').1
    have h2 := (nxI_ok h1).1
    obtain ⟨h3, h4⟩ := take_curS k h2
    refine ⟨h3, ?_⟩
    show l.take (nxI l (nxI l (curS l s0 k))).i = _
    rw [take_nxI h', take_nxI h1, h4]
    simp [curs, encT]
theorem rdM_enc {l : List UInt8} (h1 : (rsF l).f = 0) (h2 : ¬ (rsF l).i < l.length) : encM (rdM l) = l := by
  obtain ⟨h3, h4⟩ := take_curS _ h1
  have h4 : l.take (rsF l).i = l.take (rs4 l).i ++ encT (rdM l).ts := h4
  obtain ⟨h5, h6⟩ := take_nxC h3
  have h6 : l.take (rs4 l).i = l.take (rs3 l).i ++ intB (vlC l 12 (rs3 l)) := h6
  have h7 : l.take (rs3 l).i = _ := take_nxI h5
  have h8 := (nxI_ok h5).1
  have h9 : l.take (rs2 l).i = _ := take_nxI h8
  have h10 := (nxI_ok h8).1
  have h11 : l.take (rs1 l).i = _ := take_nxI h10
  rw [List.take_of_length_le (by omega)] at h4
  rw [h6, h7, h9, h11, rdK_val] at h4
  unfold encM
  rw [show ((rdM l).ts.length : Nat) = rdK l from curs_len _ _ _]
  simpa [rdM] using h4.symm
theorem nxI_at {l r : List UInt8} {i : Nat} {n : Int} (h0 : -9223372036854775808 ≤ n) (h1 : n ≤ 9223372036854775807) (h : l.drop i = intB n ++ r) : nxI l ⟨i, 0, 0⟩ = ⟨i + (intB n).length, 0, 0⟩ ∧ vlI l ⟨i, 0, 0⟩ = n ∧ l.drop (i + (intB n).length) = r := by
  obtain ⟨e1, e2, e3⟩ := rd_intB n h0 h1 r
  rw [← h] at e1 e2 e3
  refine ⟨?_, ?_, ?_⟩
  · unfold nxI cN
    rw [if_neg (by simp), if_pos e1, e3]
  · unfold vlI; rw [if_neg (by simp)]; exact e2
  · rw [← List.drop_drop, h, List.drop_left]
theorem nxC_at {l r : List UInt8} {i : Nat} {n : Nat} (h1 : n ≤ 12) (h : l.drop i = intB (n : Nat) ++ r) : nxC l 12 ⟨i, 0, 0⟩ = ⟨i + (intB (n : Nat)).length, 0, 0⟩ ∧ vlC l 12 ⟨i, 0, 0⟩ = (n : Nat) ∧ l.drop (i + (intB (n : Nat)).length) = r := by
  obtain ⟨e1, e2, e3⟩ := rd_intB (n : Nat) (by omega) (by omega) r
  rw [← h] at e1 e2 e3
  have hc : cE l i 12 3 = 0 := by unfold cE; rw [e1, e2, if_neg (by simp), if_neg (by omega), if_neg (by omega)]
  refine ⟨?_, ?_, ?_⟩
  · unfold nxC cN
    rw [if_neg (by simp), if_pos hc, e3]
  · unfold vlC; rw [if_neg (by simp), if_pos hc]; exact e2
  · rw [← List.drop_drop, h, List.drop_left]
theorem curs_at {l : List UInt8} {i : Nat} {ts : List (Int × Int)} (hb : ∀ c ∈ ts, 1 ≤ c.1 ∧ c.1 ≤ 12 ∧ 1 ≤ c.2 ∧ c.2 ≤ 100000000) (h : l.drop i = encT ts) :
    ∀ k, k ≤ ts.length → ∃ j, curS l ⟨i, 0, 0⟩ k = ⟨j, 0, 0⟩ ∧ curs l ⟨i, 0, 0⟩ k = ts.take k ∧ l.drop j = encT (ts.drop k)
  | 0, _ => ⟨i, rfl, by simp [curs], h⟩
  | k + 1, hk => by
    obtain ⟨j, h1, h2, h3⟩ := curs_at hb h k (by omega)
    have hlt : k < ts.length := by omega
    have hc := hb ts[k] (List.getElem_mem hlt)
    rw [List.drop_eq_getElem_cons hlt, encT, List.flatMap_cons, List.append_assoc] at h3
    obtain ⟨a1, a2, a3⟩ := nxI_at (n := ts[k].1) (by omega) (by omega) h3
    obtain ⟨b1, b2, b3⟩ := nxI_at (n := ts[k].2) (by omega) (by omega) a3
    refine ⟨_, ?_, ?_, b3⟩
    · show nxI l (nxI l (curS l ⟨i, 0, 0⟩ k)) = _
      rw [h1, a1, b1]
    · rw [curs, h2, h1, a1, a2, b2, List.take_add_one, List.getElem?_eq_getElem hlt]; rfl
theorem enc_rdM {m : Mk} (h : mayM m = true) : rdM (encM m) = m ∧ okL (encM m) = true := by
  have hh := may_hb h
  have hl := may_len h
  have hb := may_bd h
  have e0 : (encM m).drop 0 = intB m.wall ++ (intB m.logi ++ (intB m.node ++ (intB (m.ts.length : Nat) ++ encT m.ts))) := by simp [encM]
  obtain ⟨a1, a2, a3⟩ := nxI_at (by omega) (by omega) e0
  obtain ⟨b1, b2, b3⟩ := nxI_at (by omega) (by omega) a3
  obtain ⟨c1, c2, c3⟩ := nxI_at (by omega) (by omega) b3
  obtain ⟨d1, d2, d3⟩ := nxC_at hl c3
  obtain ⟨j, f1, f2, f3⟩ := curs_at hb d3 m.ts.length (Nat.le_refl _)
  have r1 : rs1 (encM m) = _ := a1
  have r2 := (congrArg (nxI (encM m)) r1).trans b1
  have r3 := (congrArg (nxI (encM m)) r2).trans c1
  have r4 := (congrArg (nxC (encM m) 12) r3).trans d1
  have r2 : rs2 (encM m) = _ := r2
  have r3 : rs3 (encM m) = _ := r3
  have r4 : rs4 (encM m) = _ := r4
  have rk : rdK (encM m) = m.ts.length := by unfold rdK; rw [r3, d2]; omega
  have rM : rdM (encM m) = m := by
    unfold rdM
    rw [a2, r1, b2, r2, c2, r4, rk, f2, List.take_length]
  refine ⟨rM, ?_⟩
  have rF : rsF (encM m) = ⟨j, 0, 0⟩ := by unfold rsF; rw [r4, rk]; exact f1
  have hj : ¬ j < (encM m).length := by
    intro hlt
    have := congrArg List.length f3
    rw [List.length_drop, List.drop_length] at this
    simp [encT] at this; omega
  unfold okL
  rw [rM, rF, h]
  simp; omega
theorem okL_iff {l : List UInt8} (h : okL l = true) : (rsF l).f = 0 ∧ ¬ (rsF l).i < l.length ∧ mayM (rdM l) = true := by
  unfold okL at h; simp only [Bool.and_eq_true, decide_eq_true_eq, Bool.not_eq_true', decide_eq_false_iff_not] at h
  exact ⟨h.1.1, h.1.2, h.2⟩
end Go.Proofs.YtkinhilkmjfjhaaGreat
