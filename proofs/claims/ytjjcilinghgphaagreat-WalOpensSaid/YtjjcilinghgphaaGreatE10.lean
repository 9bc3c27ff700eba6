/-
 The disk's methods that tell, New and Arm.
-/
import Derived.Test.YtjjcilinghgphaaGreatE9
import Derived.Test.YtjjcilinghgphaaGreatIT
namespace Go.Proofs.YtjjcilinghgphaaGreat
open Go.RowKit Go.Maps Go.Sort
set_option maxRecDepth 100000
attribute [local go_sem] bs_size bs_toList

theorem S5 : STy Tryz.prog 24 5 (.int .u8 0) 1 1 := ⟨Tryz.underlying24, info_parts infoU8, rfl, by decide⟩
theorem newS_ok (B : Int) (hB : 0 ≤ B) : DOk B newS := ⟨by simp [newS, Srt], fun f hf => by simp [newS] at hf, by simp [newS, tot], by simp [newS], by simp [newS], by simp [newS], by simp [newS], hB⟩
theorem new_any (B : Int) (hB : 0 ≤ B) (w : World) : Calls Tryz.prog 13 #[] w fun e w' => ∃ d, e = .returned (.pointer (some ⟨d, 0, none⟩)) ∧ Below w.heap.size w w' ∧ DkS B w' d (fun k => w.heap.size ≤ k ∧ k < w'.heap.size) newS := by
 have hmm := @run_makeMap Tryz.prog
 go_enter Tryz.func13, Tryz.ntmps13
 go_wp2
 go_ret
 refine ⟨_, rfl, ((Below.refl _ w).alloc (Nat.le_refl _) _).alloc (by simp) _, w.heap.size, [], ⟨?_, ?_, fun c hc => by simp at hc, List.Pairwise.nil⟩, rfl, ⟨⟨by simp, by simp⟩, ⟨by simp, by simp; omega⟩, fun c hc => by simp at hc⟩, fun k hk => hk.2, newS_ok B hB⟩
 · rw [show w.heap.size + 1 = (w.alloc (.map #[] 0)).heap.size by simp]
   exact heap_alloc_new _ _
 · exact (World.ownsMap_made w Tryz.prog 9 ptrE).alloc _
theorem size_any (d : Nat) (S : Nat → Prop) (B : Int) (s : DS) (w : World) (h : DkS B w d S s) : Calls Tryz.prog 71 #[.pointer (some ⟨d, 0, none⟩)] w fun e w' => e = .returned (.int .i64 (tot s.fs : Nat)) ∧ w = w' := by
 obtain ⟨m, L, hD, hL, _⟩ := h
 have hd := hD.hd
 rw [hL] at hd
 have c1 := cell_of_row w d 1 _ _ _ hd
 clear hD hd
 go_enter Tryz.func71, Tryz.ntmps71
 go_wp2
 go_ret
 exact ⟨rfl, rfl⟩
theorem writes_any (d : Nat) (S : Nat → Prop) (B : Int) (s : DS) (w : World) (h : DkS B w d S s) : Calls Tryz.prog 72 #[.pointer (some ⟨d, 0, none⟩)] w fun e w' => e = .returned (.int .i64 s.wr) ∧ w = w' := by
 obtain ⟨m, L, hD, _⟩ := h
 have c1 := cell_of_row w d 2 _ _ _ hD.hd
 clear hD
 go_enter Tryz.func72, Tryz.ntmps72
 go_wp2
 go_ret
 exact ⟨rfl, rfl⟩
theorem down_any (d : Nat) (S : Nat → Prop) (B : Int) (s : DS) (w : World) (h : DkS B w d S s) : Calls Tryz.prog 48 #[.pointer (some ⟨d, 0, none⟩)] w fun e w' => e = .returned (.bool s.dn) ∧ w = w' := by
 obtain ⟨m, L, hD, _⟩ := h
 have c1 := cell_of_row w d 4 _ _ _ hD.hd
 clear hD
 go_enter Tryz.func48, Tryz.ntmps48
 go_wp2
 go_ret
 exact ⟨rfl, rfl⟩
theorem DOk.arm {B : Int} {s : DS} (h : DOk B s) {n : Int} (hn : n ≤ 9223372036854775807) : DOk B (armS s n) := by
 unfold armS
 split
 · exact h
 · exact ⟨h.srt, h.each, h.tot, h.len, by simp only []; omega, by simp only []; omega, h.wr0, h.wr1⟩
theorem arm_any (d : Nat) (S : Nat → Prop) (B : Int) (s : DS) (n : Int) (hn : n ≤ 9223372036854775807) (w : World) (h : DkS B w d S s) : Calls Tryz.prog 8 #[.pointer (some ⟨d, 0, none⟩), .int .i64 n] w fun e w' => e = .returned (.tuple #[]) ∧ Done B w d S (armS s n) w' := by
 obtain ⟨m, L, hD, hL, hC, hS, hok⟩ := h
 have h0 : DkS B w d S s := ⟨m, L, hD, hL, hC, hS, hok⟩
 have hd := hD.hd
 have hok' := hok.arm hn
 unfold armS at hok' ⊢
 cases hdn : s.dn with
 | true =>
  rw [hdn] at hd
  have c4 := cell_of_row w d 4 _ _ _ hd
  have H0 := Lib.hid h0
  clear hD hL hC hS hok hok' h0 hd
  simp only [if_true]
  go_enter Tryz.func8, Tryz.ntmps8
  go_wp2
  go_end0
  exact ⟨rfl, Done.refl H0.out⟩
 | false =>
  rw [hdn] at hd hok'
  simp only [Bool.false_eq_true, if_false] at hok' ⊢
  have HDN := Lib.hid hdn
  have c3 := cell_of_row w d 3 _ _ _ hd
  have c4 := cell_of_row w d 4 _ _ _ hd
  have f3 := frozen_of_row w d 3 _ _ hd
  have hkey : ∀ x : Int, x = max n 0 → Done B w d S ⟨s.fs, s.wr, max n 0, false⟩ (w.setCell ⟨d, 3, none⟩ (.int .i64 x)) := fun x hx => by
   subst hx
   have hf : Fr (fun k => k = d) w (w.setCell ⟨d, 3, none⟩ (.int .i64 (max n 0))) := (Fr.refl (fun k => k = d) w).setCell (fun _ => rfl) _
   have hdd := row_set (i := 3) (v := .int .i64 (max n 0)) hd rfl
   have := DkS.scal (dn := false) hD hL hC hS hok' hf hdd
   exact Done.trans0 (hf.mono fun k _ hk => by subst hk; exact hC.1) (Done.refl this)
  have HK := Lib.hid hkey
  clear hD hL hC hS hok hok' h0 hd hkey hdn
  go_enter Tryz.func8, Tryz.ntmps8
  go_wp2
  all_goals
   go_end0
   first
    | exact ⟨rfl, HK.out _ rfl⟩
    | exact ⟨rfl, HK.out _ (by omega)⟩
end Go.Proofs.YtjjcilinghgphaaGreat
