/-
  The walk of MarkBytes.
-/
import Derived.Test.YtkinhilkmjfjhaaQ9
import Derived.Test.YtkinhilkmjfjhaaE45
namespace Go.Proofs.Ytkinhilkmjfjhaa
open Go.RowKit Go.Maps Go.Sort
set_option maxRecDepth 100000
attribute [local go_sem] bs_size bs_toList

theorem Rd.one3 (w : World) (x y z : Value) (e : TypeId) : Rd (w.alloc (.cells #[x, y, z] e)) (some ⟨w.heap.size, 0, none⟩) 1 1 3 [x, y, z] := by
  refine ⟨Nat.le_refl _, by decide, (fun h => by cases h), rfl, fun j u hj => ⟨w.heap.size, 0, rfl, ?_⟩⟩
  rw [Nat.zero_add, cell_of_row _ w.heap.size j #[x, y, z] e (0, 0) (heap_alloc_new w _)]
  simpa using hj
def oneL (l : List UInt8) : List FlI := [⟨nmM, l, (l.length : Nat)⟩]
theorem oneL_e (l : List UInt8) : loadE (oneL l) = 0 := by
  have h : chkE [] ⟨nmM, l, (l.length : Nat)⟩ = 0 := chkE_zero (show nameOk nmM = true by decide) (by simp) (by simp) (by simp)
  unfold loadE oneL
  have hc : chk [] [⟨nmM, l, (l.length : Nat)⟩] = 0 := by unfold chk; rw [if_pos h]; rfl
  rw [if_pos hc, if_neg (by simp)]
theorem oneL_rd (w : World) (a : Option Addr) (cap : Nat) (l : List UInt8) (hl : l.length ≤ 20000) (h : Rd8 w a l.length cap l) :
    RdFi (w.alloc (.cells #[.string (bs nmM), .slice a l.length cap, .int .i64 (l.length : Nat)] 57)) (fun _ => True) (some ⟨w.heap.size, 0, none⟩) 1 1 (oneL l) := by
  refine ⟨rfl, fun _ _ _ => trivial, _, Rd.one3 w _ _ _ _, fun i f hf => ?_⟩
  match i, hf with
  | 0, hf =>
    simp [oneL] at hf
    subst hf
    refine ⟨a, cap, fun j u hu => by simpa [fiCells] using hu, ⟨show nmM.length ≤ 9223372036854775807 by decide, by show (-9223372036854775808 : Int) ≤ (l.length : Nat); omega, by show ((l.length : Nat) : Int) ≤ _; omega⟩, h.below ((Below.refl _ _).alloc (Nat.le_refl _) _), fun _ _ _ => trivial⟩
  | i + 1, hf => simp [oneL] at hf
set_option maxHeartbeats 4000000 in
theorem mbytes_walk (a : Option Addr) (n cap : Nat) (l : List UInt8) (w : World) (h : Rd8 w a n cap l) : Calls Try.prog 5 #[.slice a n cap] w (TrueEnd w) := by
  obtain rfl := h.1
  have hn6 : l.length ≤ 9223372036854775807 := Nat.le_trans h.2.1 h.2.2.1
  have H0 := Lib.hid h
  clear h
  go_enter Try.func5, Try.ntmps5
  by_cases hbig : 20000 < l.length
  · have d1 : decide ((20000 : Int) < l.length) = true := by simp; omega
    go_wp2_with fail
    go_at_call 6
    refine (mfirst_any w).mono ?_
    rintro e wa ⟨rfl, hb⟩
    have HBA := Lib.hid hb
    clear hb
    go_wp2_with fail
    go_at_call 6
    refine (mfirst_any wa).mono ?_
    rintro e wc ⟨rfl, hb⟩
    have HBC := Lib.hid hb
    clear hb
    go_wp2_with fail
    go_ret
    exact TrueEnd.mk (next_below HBA.out HBC.out)
  · have d1 : decide ((20000 : Int) < l.length) = false := by simp; omega
    go_wp2_with fail
    go_at_call 6
    refine (mfirst_any w).mono ?_
    rintro e wa ⟨rfl, hb⟩
    have HBA := Lib.hid hb
    clear hb
    have hl : l.length ≤ 20000 := by omega
    have hrf := oneL_rd wa a cap l hl (H0.out.below HBA.out)
    have hba : Below wa.heap.size wa (wa.alloc (.cells #[.string (bs nmM), .slice a l.length cap, .int .i64 (l.length : Nat)] 57)) := (Below.refl _ _).alloc (Nat.le_refl _) _
    have hE := oneL_e l
    obtain ⟨L, hL⟩ : ∃ L, oneL l = L := ⟨_, rfl⟩
    have htt : totI L ≤ 20000 := by rw [← hL]; simpa [oneL, totI] using hl
    rw [hL] at hrf hE
    obtain ⟨wl, hwl⟩ : ∃ wl, wa.alloc (.cells #[.string (bs nmM), .slice a l.length cap, .int .i64 (l.length : Nat)] 57) = wl := ⟨_, rfl⟩
    rw [hwl] at hrf hba
    have HRF := Lib.hid hrf
    have HE := Lib.hid hE
    have HBB := Lib.hid (next_below HBA.out hba)
    have HTT := Lib.hid htt
    have HWL := Lib.hid hwl
    clear hrf hE hL hba htt hwl hbig
    go_wp2_with fail
    go_at_call 22
    have hwl : wa.alloc (.cells #[.string { data := #[109, 97, 114, 107] }, .slice a l.length cap, .int .i64 (l.length : Nat)] 57) = wl := HWL.out
    rw [hwl]
    clear hwl HWL
    refine (load_any _ 1 1 L _ wl HRF.out (by have := HTT.out; omega) (by decide)).mono ?_
    rintro e w2 ⟨hb2, hp⟩
    obtain ⟨_, hok, d, rfl, hd2⟩ := hp.resolve_left (fun h => h.1 HE.out)
    have HB2 := Lib.hid hb2
    have HD2 := Lib.hid hd2
    have HOK := Lib.hid hok
    clear hb2 hp hok hd2
    go_wp2_with fail
    go_at_call 23
    refine (rload_any _ 1 1 L _ w2 (HRF.out.below HB2.out) (by have := HTT.out; omega) (by decide)).mono ?_
    rintro e w3 ⟨hb3, hp⟩
    obtain ⟨_, c, rfl, hd3⟩ := hp.resolve_left (fun h => h.1 HE.out)
    have HB3 := Lib.hid hb3
    have HC3 := Lib.hid hd3
    have HD3 := Lib.hid (HD2.out.below hb3)
    clear hb3 hp hd3 HD2
    go_wp2_with fail
    go_at_call 14
    refine (mload_any d _ 0 (loadS L) w3 HD3.out).mono ?_
    rintro e w4 ⟨v4, rfl, ho4, hb4⟩
    obtain ⟨M, hM⟩ : ∃ M, (loadM (loadS L)).1 = M := ⟨_, rfl⟩
    obtain ⟨er, hEr⟩ : ∃ er, (loadM (loadS L)).2 = er := ⟨_, rfl⟩
    rw [hM, hEr]
    rw [hM] at ho4
    obtain ⟨a4, c4, rfl, hr4⟩ := ho4.rd
    have HR4 := Lib.hid hr4
    have HB4 := Lib.hid (next_below (next_below (next_below HBB.out HB2.out) HB3.out) hb4)
    have HC4 := Lib.hid (HC3.out.below hb4)
    have HM := Lib.hid hM
    have HER := Lib.hid hEr
    clear ho4 hr4 hb4 hM hEr HC3 HD3
    go_wp2_with fail
    go_at_call 24
    have hba5 : Below w4.heap.size w4 (w4.alloc (.cells #[.int .i64 M.wall, .int .i64 M.logi, .int .i64 M.node, .slice a4 M.ts.length c4] 34)) := (Below.refl _ _).alloc (Nat.le_refl _) _
    have hrow5 := heap_alloc_new w4 (.cells #[.int .i64 M.wall, .int .i64 M.logi, .int .i64 M.node, .slice a4 M.ts.length c4] 34)
    obtain ⟨w5, hw5⟩ : ∃ w5, w4.alloc (.cells #[.int .i64 M.wall, .int .i64 M.logi, .int .i64 M.node, .slice a4 M.ts.length c4] 34) = w5 := ⟨_, rfl⟩
    rw [hw5] at hba5 hrow5 ⊢
    refine (rmload_any c _ (loadS L) HOK.out.len HOK.out.tot w5 (HC4.out.below hba5)).mono ?_
    rintro e w6 ⟨v6, rfl, ho6, hb6⟩
    rw [HM.out, HER.out]
    rw [HM.out] at ho6
    obtain ⟨a6, c6, rfl, hr6⟩ := ho6.rd
    have hrow6 := (hb6.block w4.heap.size (Array.getElem?_eq_some_iff.1 hrow5).1).trans hrow5
    have HR6 := Lib.hid hr6
    have HR46 := Lib.hid ((HR4.out.below hba5).below hb6)
    have HB6 := Lib.hid (next_below (next_below HB4.out hba5) hb6)
    clear ho6 hr6 hb6 hba5 hw5 hrow5
    go_wp2_with fail
    go_at_call 6
    have hba7 : Below w6.heap.size w6 (w6.alloc (.cells #[.int .i64 M.wall, .int .i64 M.logi, .int .i64 M.node, .slice a6 M.ts.length c6] 49)) := (Below.refl _ _).alloc (Nat.le_refl _) _
    have hrow7 := heap_alloc_new w6 (.cells #[.int .i64 M.wall, .int .i64 M.logi, .int .i64 M.node, .slice a6 M.ts.length c6] 49)
    obtain ⟨w7, hw7⟩ : ∃ w7, w6.alloc (.cells #[.int .i64 M.wall, .int .i64 M.logi, .int .i64 M.node, .slice a6 M.ts.length c6] 49) = w7 := ⟨_, rfl⟩
    rw [hw7] at hba7 hrow7 ⊢
    refine (mfirst_any w7).mono ?_
    rintro e w8 ⟨rfl, hb8⟩
    have hrow8 := (hb8.block w6.heap.size (Array.getElem?_eq_some_iff.1 hrow7).1).trans hrow7
    have hrow8' := ((hba7.trans (hb8.mono hba7.size)).block w4.heap.size (Array.getElem?_eq_some_iff.1 hrow6).1).trans hrow6
    have m0 := cell_of_row _ _ 0 _ _ _ hrow8'
    have m1 := cell_of_row _ _ 1 _ _ _ hrow8'
    have m2 := cell_of_row _ _ 2 _ _ _ hrow8'
    have m3 := cell_of_row _ _ 3 _ _ _ hrow8'
    have r0 := cell_of_row _ _ 0 _ _ _ hrow8
    have r1 := cell_of_row _ _ 1 _ _ _ hrow8
    have r2 := cell_of_row _ _ 2 _ _ _ hrow8
    have r3 := cell_of_row _ _ 3 _ _ _ hrow8
    have hq := same_any M M a4 a6 c4 c6 w8 ((HR46.out.below hba7).below hb8) ((HR6.out.below hba7).below hb8)
    rw [sameB_refl] at hq
    have HQ := Lib.hid hq
    have HB8 := Lib.hid (next_below (next_below HB6.out hba7) hb8)
    have hee : (er == er) = true := by simp
    clear hrow6 hrow7 hrow8 hrow8' hba7 hb8 hq hw7
    go_wp2_with fail
    go_at_call 16
    refine (HQ.out).mono ?_
    rintro e w9 ⟨rfl, hb9⟩
    have HB9 := Lib.hid (next_below HB8.out hb9)
    clear hb9
    go_wp2_with fail
    go_ret
    exact TrueEnd.mk HB9.out
end Go.Proofs.Ytkinhilkmjfjhaa
