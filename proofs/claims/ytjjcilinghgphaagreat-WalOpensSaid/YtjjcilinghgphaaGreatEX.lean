/-
 The reference's disk: Remove, Arm, Sync.
 The reference's disk: Append.
 The reference's disk: Cut.
 The reference's disk: Rename.
 The reference's disk: Crash.
 The reference's disk: List; lists of texts compared; the laws' Model. Written by a program (e40gen.py).
-/
import Derived.Test.YtjjcilinghgphaaGreatEZ
import Derived.Deep.DeepCutAuto
/-! ### The reference's disk: Remove, Arm, Sync. -/
namespace Go.Proofs.YtjjcilinghgphaaGreat
open Go.RowKit Go.Maps Go.Sort
set_option maxRecDepth 100000
attribute [local go_sem] bs_size bs_toList

set_option maxHeartbeats 2000000 in
theorem rremove_any (c : Nat) (S : Nat → Prop) (B : Int) (hB : B ≤ 1000000000000) (s : DS) (n : List UInt8) (hok : DOk B s) (w : World) (h : Rf w c S s) :
 Calls Tryz.prog 80 #[.pointer (some ⟨c, 0, none⟩), .string (bs n)] w (RTold w c S (removeS s n)) := by
 have HS := Lib.hid h.lt
 have HIN := Lib.hid h.in
 have HRF := Lib.hid h
 have hlen := hok.len
 have HAT := Lib.hid (at_any c S s n hok.len w h)
 obtain ⟨a, cap, c0, c1, c2, c3, hr⟩ := h.row
 cases hdn : s.dn with
 | true =>
  rw [hdn] at c1
  have hres : Hid (removeS s n = (s, 12)) := errW_dn hdn
  clear hr hdn h
  go_enter Tryz.func80, Tryz.ntmps80
  go_wp2_with (go_at_call 24; ((with_reducible refine (HAT.out).mono ?_); rintro e w1 ⟨rfl, rfl⟩))
  go_ret
  exact RTold.same (by rw [hres.out]; rfl) HRF.out (by rw [hres.out]) (Fr.refl _ _) HS.out
 | false =>
  rw [hdn] at c1
  rcases atI_get (n := n) (l := s.fs) with ⟨f, k, hg, hf, hk, hat⟩ | ⟨hg, hat⟩
  · rw [hat] at HAT
    have he : hasE s n = 0 := by unfold hasE; rw [hg]; rfl
    obtain ⟨s1, hs1⟩ : ∃ s1, (fallS s).1 = s1 := ⟨_, rfl⟩
    have hfs1 : s1.fs = s.fs := by rw [← hs1]; exact fallS_fs s
    cases hfb : (fallS s).2 with
    | true =>
     have HFA := Lib.hid (falls_out hB hok hdn h hfb hs1)
     have hres : Hid (removeS s n = (s1, 12)) := by unfold removeS; rw [he, ← hs1]; exact errW_fall hdn rfl hfb
     obtain ⟨m, hm⟩ : ∃ m, s.fs.length = m := ⟨_, rfl⟩
     rw [hm] at c0 hlen hk
     clear hr hdn h hg hf hat hm hfb hs1 hfs1 he
     go_enter Tryz.func80, Tryz.ntmps80
     go_wp2_with (first | (go_at_call 24; ((with_reducible refine (HAT.out).mono ?_); rintro e w1 ⟨rfl, rfl⟩)) | (go_at_call 75; ((with_reducible refine (HFA.out).mono ?_); rintro e w1 ⟨rfl, hr1, hf1⟩; have HR1 := Lib.hid hr1; have HF1 := Lib.hid hf1; clear hr1 hf1)))
     go_ret
     exact RTold.same (by rw [hres.out]; rfl) HR1.out (by rw [hres.out]) (HF1.out.one HIN.out) HS.out
    | false =>
     have HFA := Lib.hid (falls_out hB hok hdn h hfb hs1)
     have hfn := (getF_some hg).2
     have hres : Hid (removeS s n = ({ s1 with fs := s1.fs.take k ++ s1.fs.drop (k + 1) }, 0)) := by
      unfold removeS; rw [he, errW_ok hdn rfl hfb, hs1]
      show (({ s1 with fs := delF n s1.fs } : DS), (0 : Int)) = _
      rw [hfs1, ← hfn, del_split hok.srt hf]
     have HP : Hid (∀ W, Rf W c S s1 → Calls Tryz.prog 97 #[.pointer (some ⟨c, 0, none⟩), .int .i64 (k : Nat)] W (RPost W c S { s1 with fs := s1.fs.take k ++ s1.fs.drop (k + 1) })) := fun W hW =>
      drop_any_ c S s1 k (by rw [hfs1]; omega) (by rw [hfs1]; exact hk) W hW
     obtain ⟨m, hm⟩ : ∃ m, s.fs.length = m := ⟨_, rfl⟩
     rw [hm] at c0 hlen hk
     clear hr hdn h hg hf hat hm hfb hs1 hfs1 he hfn
     go_enter Tryz.func80, Tryz.ntmps80
     go_wp2_with (first | (go_at_call 24; ((with_reducible refine (HAT.out).mono ?_); rintro e w1 ⟨rfl, rfl⟩)) | (go_at_call 75; ((with_reducible refine (HFA.out).mono ?_); rintro e w1 ⟨rfl, hr1, hf1⟩; have HR1 := Lib.hid hr1; have HF1 := Lib.hid hf1; clear hr1 hf1)) | (go_at_call 97; ((with_reducible refine (HP.out _ HR1.out).mono ?_); rintro e w2 ⟨rfl, hr2, hf2⟩; have HR2 := Lib.hid hr2; have HF2 := Lib.hid hf2; clear hr2 hf2)))
     go_ret
     exact ⟨by rw [hres.out]; rfl, by rw [hres.out]; exact HR2.out.next (HF1.out.one HIN.out) (HF2.out.one HIN.out), (HF1.out.one HIN.out).trans (HF2.out.one HIN.out)⟩
  · rw [hat] at HAT
    have hres : Hid (removeS s n = (s, 8)) := by
     have : hasE s n = 8 := by unfold hasE; rw [hg]; rfl
     unfold removeS; rw [this]; exact errW_err hdn (by decide)
    clear hr hdn h hg hat
    go_enter Tryz.func80, Tryz.ntmps80
    go_wp2_with (go_at_call 24; ((with_reducible refine (HAT.out).mono ?_); rintro e w1 ⟨rfl, rfl⟩))
    go_ret
    exact RTold.same (by rw [hres.out]; rfl) HRF.out (by rw [hres.out]) (Fr.refl _ _) HS.out
set_option maxHeartbeats 2000000 in
theorem rsync_any (c : Nat) (S : Nat → Prop) (B : Int) (hB : B ≤ 1000000000000) (s : DS) (n : List UInt8) (hok : DOk B s) (w : World) (h : Rf w c S s) :
 Calls Tryz.prog 78 #[.pointer (some ⟨c, 0, none⟩), .string (bs n)] w (RTold w c S (syncS s n)) := by
 have HS := Lib.hid h.lt
 have HIN := Lib.hid h.in
 have HRF := Lib.hid h
 have hlen := hok.len
 have HAT := Lib.hid (at_any c S s n hok.len w h)
 obtain ⟨a, cap, c0, c1, c2, c3, hr⟩ := h.row
 cases hdn : s.dn with
 | true =>
  rw [hdn] at c1
  have hres : Hid (syncS s n = (s, 12)) := errW_dn hdn
  clear hr hdn h
  go_enter Tryz.func78, Tryz.ntmps78
  go_wp2_with (go_at_call 24; ((with_reducible refine (HAT.out).mono ?_); rintro e w1 ⟨rfl, rfl⟩))
  go_ret
  exact RTold.same (by rw [hres.out]; rfl) HRF.out (by rw [hres.out]) (Fr.refl _ _) HS.out
 | false =>
  rw [hdn] at c1
  rcases atI_get (n := n) (l := s.fs) with ⟨f, k, hg, hf, hk, hat⟩ | ⟨hg, hat⟩
  · rw [hat] at HAT
    have he : hasE s n = 0 := by unfold hasE; rw [hg]; rfl
    obtain ⟨s1, hs1⟩ : ∃ s1, (fallS s).1 = s1 := ⟨_, rfl⟩
    have hfs1 : s1.fs = s.fs := by rw [← hs1]; exact fallS_fs s
    cases hfb : (fallS s).2 with
    | true =>
     have HFA := Lib.hid (falls_out hB hok hdn h hfb hs1)
     have hres : Hid (syncS s n = (s1, 12)) := by unfold syncS; rw [he, ← hs1]; exact errW_fall hdn rfl hfb
     obtain ⟨m, hm⟩ : ∃ m, s.fs.length = m := ⟨_, rfl⟩
     rw [hm] at c0 hlen hk
     clear hr hdn h hg hf hat hm hfb hs1 hfs1 he
     go_enter Tryz.func78, Tryz.ntmps78
     go_wp2_with (first | (go_at_call 24; ((with_reducible refine (HAT.out).mono ?_); rintro e w1 ⟨rfl, rfl⟩)) | (go_at_call 75; ((with_reducible refine (HFA.out).mono ?_); rintro e w1 ⟨rfl, hr1, hf1⟩; have HR1 := Lib.hid hr1; have HF1 := Lib.hid hf1; clear hr1 hf1)))
     go_ret
     exact RTold.same (by rw [hres.out]; rfl) HR1.out (by rw [hres.out]) (HF1.out.one HIN.out) HS.out
    | false =>
     have HFA := Lib.hid (falls_out hB hok hdn h hfb hs1)
     have hfn := (getF_some hg).2
     have hf1 : s1.fs[k]? = some f := by rw [hfs1]; exact hf
     have hres : Hid (syncS s n = ({ s1 with fs := s1.fs.set k ⟨f.nm, f.dt, f.dt.length⟩ }, 0)) := by
      unfold syncS; rw [he, errW_ok hdn rfl hfb, hs1]
      show (({ s1 with fs := updF n (fun f => ⟨f.nm, f.dt, f.dt.length⟩) s1.fs } : DS), (0 : Int)) = _
      rw [hfs1, ← hfn, upd_set hok.srt hf]
     obtain ⟨m, hm⟩ : ∃ m, s.fs.length = m := ⟨_, rfl⟩
     have hm1 : s1.fs.length = m := by rw [hfs1]; exact hm
     rw [hm] at c0 hlen hk
     have HFK := Lib.hid hf1
     have HM1 := Lib.hid hm1
     clear hr hdn h hg hf hat hm hfb hs1 hfs1 he hfn hf1 hm1
     go_enter Tryz.func78, Tryz.ntmps78
     go_wp2_with (go_at_call 24; ((with_reducible refine (HAT.out).mono ?_); rintro e w1 ⟨rfl, rfl⟩))
     go_at_call 75
     refine (HFA.out).mono ?_
     rintro e w1 ⟨rfl, hr1, hf1⟩
     obtain ⟨b, cap1, aj, cj, hc1, v0, v1, v2, v3, v4, v5, v6, v7, v8⟩ := hr1.view HFK.out
     rw [HM1.out] at hc1
     have c0 := cell_of_row w1 c 0 _ _ _ hc1
     have HR1 := Lib.hid hr1
     have HF1 := Lib.hid hf1
     have hdl : f.dt.length ≤ 9223372036854775807 := by have := v5.2.1; have := v5.2.2.1; unfold maxLen at this; omega
     have HC0 := Lib.hid c0
     have HSB := Lib.hid v8
     clear hr1 hf1 hc1 v5 v6 v7 v8
     go_wp2_with fail
     refine wp_region_ht 16 (fun W => W.cell? ⟨c, 0, none⟩ = some (.slice (some ⟨b, 0, none⟩) m cap1) ∧ W.cell? ⟨b, k * 3 + 1, none⟩ = some (.slice aj f.dt.length cj)) (by kernel_rfl) (by kernel_rfl) ?_ (fun hHeld => ?_)
     · exact ⟨c0, v1⟩
     try simp only [Act.put, List.setIfInBounds_toArray, List.set_cons_zero, List.set_cons_succ]
     refine wpHT_takeD (i := 0) (d := 20) (v := ?_) (by kernel_rfl) rfl rfl (by decide) (by kernel_rfl) (by kernel_rfl) (fun _ _ _ h => h) (Or.inl ⟨by kernel_rfl, ?_⟩) (by assumption) ?_
     rotate_left
     · intro w hSw; (try dsimp only at hSw); go_simp; (try with_reducible rfl)
     try simp only [Act.put, List.setIfInBounds_toArray, List.set_cons_zero, List.set_cons_succ]
     refine wpHT_takeD (i := 1) (d := 21) (v := ?_) (by kernel_rfl) rfl rfl (by decide) (by kernel_rfl) (by kernel_rfl) (fun _ _ _ h => h) (Or.inl ⟨by kernel_rfl, ?_⟩) (by assumption) ?_
     rotate_left
     · intro w hSw; (try dsimp only at hSw); go_simp; (try with_reducible rfl)
     try simp only [Act.put, List.setIfInBounds_toArray, List.set_cons_zero, List.set_cons_succ]
     refine wpHT_takeD (i := 2) (d := 22) (v := ?_) (by kernel_rfl) rfl rfl (by decide) (by kernel_rfl) (by kernel_rfl) (fun _ _ _ h => h) (Or.inl ⟨by kernel_rfl, ?_⟩) (by assumption) ?_
     rotate_left
     · intro w hSw; (try dsimp only at hSw); go_simp; (try with_reducible rfl)
     try simp only [Act.put, List.setIfInBounds_toArray, List.set_cons_zero, List.set_cons_succ]
     refine wpHT_takeD (i := 3) (d := 23) (v := ?_) (by kernel_rfl) rfl rfl (by decide) (by kernel_rfl) (by kernel_rfl) (fun _ _ _ h => h) (Or.inl ⟨by kernel_rfl, ?_⟩) (by assumption) ?_
     rotate_left
     · intro w hSw; (try dsimp only at hSw); go_simp; (try with_reducible rfl)
     try simp only [Act.put, List.setIfInBounds_toArray, List.set_cons_zero, List.set_cons_succ]
     refine wpHT_takeD (i := 4) (d := 24) (v := ?_) (by kernel_rfl) rfl rfl (by decide) (by kernel_rfl) (by kernel_rfl) (fun _ _ _ h => h) (Or.inl ⟨by kernel_rfl, ?_⟩) (by assumption) ?_
     rotate_left
     · intro w hSw; (try dsimp only at hSw); go_simp; (try with_reducible rfl)
     try simp only [Act.put, List.setIfInBounds_toArray, List.set_cons_zero, List.set_cons_succ]
     refine wpHT_takeD (i := 5) (d := 25) (v := ?_) (by kernel_rfl) rfl rfl (by decide) (by kernel_rfl) (by kernel_rfl) (fun _ _ _ h => h) (Or.inl ⟨by kernel_rfl, ?_⟩) (by assumption) ?_
     rotate_left
     · intro w hSw; (try dsimp only at hSw); go_simp; (try with_reducible rfl)
     try simp only [Act.put, List.setIfInBounds_toArray, List.set_cons_zero, List.set_cons_succ]
     refine wpHT_takeD (i := 6) (d := 26) (v := ?_) (by kernel_rfl) rfl rfl (by decide) (by kernel_rfl) (by kernel_rfl) (fun _ _ _ h => h) (Or.inl ⟨by kernel_rfl, ?_⟩) (by assumption) ?_
     rotate_left
     · intro w hSw; (try dsimp only at hSw); go_simp; (try with_reducible rfl)
     try simp only [Act.put, List.setIfInBounds_toArray, List.set_cons_zero, List.set_cons_succ]
     refine wpHT_takeD (i := 7) (d := 27) (v := ?_) (by kernel_rfl) rfl rfl (by decide) (by kernel_rfl) (by kernel_rfl) (fun _ _ _ h => h) (Or.inl ⟨by kernel_rfl, ?_⟩) (by assumption) ?_
     rotate_left
     · intro w hSw; (try dsimp only at hSw); go_simp; (try with_reducible rfl)
     try simp only [Act.put, List.setIfInBounds_toArray, List.set_cons_zero, List.set_cons_succ]
     refine wpHT_takeD (i := 8) (d := 28) (v := ?_) (by kernel_rfl) rfl rfl (by decide) (by kernel_rfl) (by kernel_rfl) (fun _ _ _ h => h) (Or.inl ⟨by kernel_rfl, ?_⟩) (by assumption) ?_
     rotate_left
     · intro w hSw; (try dsimp only at hSw); go_simp; (try with_reducible rfl)
     try simp only [Act.put, List.setIfInBounds_toArray, List.set_cons_zero, List.set_cons_succ]
     refine wpHT_takeD (i := 9) (d := 29) (v := ?_) (by kernel_rfl) rfl rfl (by decide) (by kernel_rfl) (by kernel_rfl) (fun _ _ _ h => h) (Or.inl ⟨by kernel_rfl, ?_⟩) (by assumption) ?_
     rotate_left
     · intro w hSw; (try dsimp only at hSw); go_simp; (try with_reducible rfl)
     try simp only [Act.put, List.setIfInBounds_toArray, List.set_cons_zero, List.set_cons_succ]
     refine wpHT_takeD (i := 10) (d := 30) (v := ?_) (by kernel_rfl) rfl rfl (by decide) (by kernel_rfl) (by kernel_rfl) (fun _ _ _ h => h) (Or.inl ⟨by kernel_rfl, ?_⟩) (by assumption) ?_
     rotate_left
     · intro w hSw; (try dsimp only at hSw); go_simp; (try with_reducible rfl)
     try simp only [Act.put, List.setIfInBounds_toArray, List.set_cons_zero, List.set_cons_succ]
     refine wpHT_takeD (i := 11) (d := 31) (v := ?_) (by kernel_rfl) rfl rfl (by decide) (by kernel_rfl) (by kernel_rfl) (fun _ _ _ h => h) (Or.inl ⟨by kernel_rfl, ?_⟩) (by assumption) ?_
     rotate_left
     · intro w hSw; (try dsimp only at hSw); go_simp; (try with_reducible rfl)
     try simp only [Act.put, List.setIfInBounds_toArray, List.set_cons_zero, List.set_cons_succ]
     refine wpHT_takeD (i := 12) (d := 32) (v := ?_) (by kernel_rfl) rfl rfl (by decide) (by kernel_rfl) (by kernel_rfl) (fun _ _ _ h => h) (Or.inl ⟨by kernel_rfl, ?_⟩) (by assumption) ?_
     rotate_left
     · intro w hSw; (try dsimp only at hSw); go_simp; (try with_reducible rfl)
     try simp only [Act.put, List.setIfInBounds_toArray, List.set_cons_zero, List.set_cons_succ]
     refine wpHT_takeD (i := 13) (d := 33) (v := ?_) (by kernel_rfl) rfl rfl (by decide) (by kernel_rfl) (by kernel_rfl) (fun _ _ _ h => h) (Or.inl ⟨by kernel_rfl, ?_⟩) (by assumption) ?_
     rotate_left
     · intro w hSw; (try dsimp only at hSw); go_simp; (try with_reducible rfl)
     try simp only [Act.put, List.setIfInBounds_toArray, List.set_cons_zero, List.set_cons_succ]
     refine wpHT_takeD (i := 14) (d := 34) (v := ?_) (by kernel_rfl) rfl rfl (by decide) (by kernel_rfl) (by kernel_rfl) (fun _ _ _ h => h) (Or.inl ⟨by kernel_rfl, ?_⟩) (by assumption) ?_
     rotate_left
     · intro w hSw; (try dsimp only at hSw); go_simp; (try with_reducible rfl)
     try simp only [Act.put, List.setIfInBounds_toArray, List.set_cons_zero, List.set_cons_succ]
     refine wpHT_takeD (i := 15) (d := 35) (v := ?_) (by kernel_rfl) rfl rfl (by decide) (by kernel_rfl) (by kernel_rfl) (fun _ _ _ h => h) (Or.inl ⟨by kernel_rfl, ?_⟩) (by assumption) ?_
     rotate_left
     · intro w hSw; (try dsimp only at hSw); go_simp; (try with_reducible rfl)
     try simp only [Act.put, List.setIfInBounds_toArray, List.set_cons_zero, List.set_cons_succ]
     refine wpHT_done (by kernel_rfl) ?_
     simp only [List.drop_succ_cons, List.drop_zero]
     go_wp2
     go_ret
     have hfr : Fr S w1.drew (w1.drew.setCell ⟨b, k * 3 + 2, none⟩ (.int .i64 (f.dt.length : Nat))) := (Fr.refl S w1.drew).setCell (fun _ => HSB.out) _
     have hset := (HR1.out.keep ((Fr.refl (fun _ => False) w1).drew) (fun _ _ h => h)).setS HFK.out HC0.out f.dt.length
     have hfa := (HF1.out.one HIN.out).drew.trans hfr
     exact RTold.same (by rw [hres.out]; rfl) hset (by rw [hres.out]) hfa HS.out
  · rw [hat] at HAT
    have hres : Hid (syncS s n = (s, 8)) := by
     have : hasE s n = 8 := by unfold hasE; rw [hg]; rfl
     unfold syncS; rw [this]; exact errW_err hdn (by decide)
    clear hr hdn h hg hat
    go_enter Tryz.func78, Tryz.ntmps78
    go_wp2_with (go_at_call 24; ((with_reducible refine (HAT.out).mono ?_); rintro e w1 ⟨rfl, rfl⟩))
    go_ret
    exact RTold.same (by rw [hres.out]; rfl) HRF.out (by rw [hres.out]) (Fr.refl _ _) HS.out
set_option maxHeartbeats 1000000 in
theorem rarm_any (c : Nat) (S : Nat → Prop) (s : DS) (n : Int) (h0 : -9223372036854775808 ≤ n) (h1 : n ≤ 9223372036854775807) (w : World) (h : Rf w c S s) :
 Calls Tryz.prog 9 #[.pointer (some ⟨c, 0, none⟩), .int .i64 n] w fun e w' => e = .returned (.tuple #[]) ∧ Rf w' c S (armS s n) ∧ Fr S w w' := by
 have HRF := Lib.hid h
 have HIN := Lib.hid h.in
 obtain ⟨a, cap, c0, c1, c2, c3, hr⟩ := h.row
 cases hdn : s.dn with
 | true =>
  rw [hdn] at c1
  have hres : Hid (armS s n = s) := by show _ = _; unfold armS; rw [hdn]; rfl
  clear hr hdn h
  go_enter Tryz.func9, Tryz.ntmps9
  go_wp2
  go_end0
  exact ⟨rfl, by rw [hres.out]; exact HRF.out, Fr.refl _ _⟩
 | false =>
  obtain ⟨v, hc, hk⟩ := h.scal (wr' := s.wr) (ar' := max n 0) (dn' := s.dn)
  have hres : Hid (armS s n = ⟨s.fs, s.wr, max n 0, s.dn⟩) := by show _ = _; unfold armS; rw [hdn]; rfl
  have HK := Lib.hid hk
  have HC := Lib.hid hc
  have f2 := frozen_of_row w c 2 _ _ hc
  rw [hdn] at c1
  clear hr hdn h hc hk
  go_enter Tryz.func9, Tryz.ntmps9
  go_wp2
  go_end0
  refine ⟨rfl, by rw [hres.out]; exact HK.out _ ((Fr.refl (fun k => k = c) w).setCell (fun _ => rfl) _) (row_set HC.out rfl), (Fr.refl S w).setCell (fun _ => HIN.out) _⟩
end Go.Proofs.YtjjcilinghgphaaGreat

/-! ### The reference's disk: Append. -/
namespace Go.Proofs.YtjjcilinghgphaaGreat
open Go.RowKit Go.Maps Go.Sort
set_option maxRecDepth 100000
attribute [local go_sem] bs_size bs_toList

theorem fallS_with (s : DS) (l : List Fl) : fallS { s with fs := l } = ({ (fallS s).1 with fs := l }, (fallS s).2) := by
 unfold fallS
 by_cases h1 : 0 < s.ar
 · by_cases h2 : s.ar = 1
   · simp [h2]
   · simp [h1, h2]
 · simp [h1]
/-- What 'falls' tells, at any world, whatever the files. -/
theorem falls_at {B : Int} (hB : B ≤ 1000000000000) {c : Nat} {s : DS} (hok : DOk B s) (hdn : s.dn = false) {fb : Bool} (hfb : (fallS s).2 = fb) {s1 : DS} (hs1 : (fallS s).1 = s1) (l : List Fl) (S : Nat → Prop) (w : World) (h : Rf w c S { s with fs := l }) :
 Calls Tryz.prog 75 #[.pointer (some ⟨c, 0, none⟩)] w fun e w' => e = .returned (.bool fb) ∧ Rf w' c S { s1 with fs := l } ∧ Fr (fun k => k = c) w w' := by
 have := falls_any c S { s with fs := l } hok.ar0 hok.ar1 hok.wr0 (Int.le_trans hok.wr1 hB) hdn w h
 unfold FallPost at this
 rw [fallS_with, hfb, hs1] at this
 exact this
theorem RTold.at {w w' : World} {c : Nat} {S S' : Nat → Prop} {s : DS} {r : DS × Int} {e : Ending} (he : e = .returned (.int .i64 r.2)) (h : Rf w' c S' s) (hr : r.1 = s) (hs : ∀ q, S' q → Sx S w w' q) (hf : Fr S w w') (hS : ∀ q, S q → q < w.heap.size) : RTold w c S r e w' :=
 ⟨he, by rw [hr]; exact h.grow hs (fun q hq => hq.elim (fun h => Nat.lt_of_lt_of_le (hS q h) hf.size) (fun h => h.2)), hf⟩
theorem rapp_err {s : DS} {n b : List UInt8} {e : Int} (h : appE s n b = e) (he : e ≠ 0) : appendS s n b = (s, e) := by unfold appendS; rw [if_pos (by rw [h]; exact he), h]
theorem rapp_ok {s : DS} {n b : List UInt8} {fb : Bool} {s1 : DS} (h : appE s n b = 0) (hfb : (fallS s).2 = fb) (hs1 : (fallS s).1 = s1) : appendS s n b = ({ s1 with fs := updF n (fun f => ⟨f.nm, f.dt ++ b, f.sf⟩) s.fs }, if fb = true then 12 else 0) := by
 unfold appendS; rw [if_neg (by rw [h]; decide), hfb, hs1]
set_option maxHeartbeats 4000000 in
theorem rappend_any (c : Nat) (S : Nat → Prop) (B : Int) (hB : B ≤ 1000000000000) (s : DS) (n : List UInt8) (ab : Option Addr) (nb cb : Nat) (bb : List UInt8) (hbb : bb.length ≤ 4194304) (hok : DOk B s) (w : World) (h : Rf w c S s) (hrb : Rd8 w ab nb cb bb) :
 Calls Tryz.prog 77 #[.pointer (some ⟨c, 0, none⟩), .string (bs n), .slice ab nb cb] w (RTold w c S (appendS s n bb)) := by
 have HS := Lib.hid h.lt
 have HIN := Lib.hid h.in
 have HRF := Lib.hid h
 have hlen := hok.len
 have hnb : nb ≤ 4194304 := by rw [hrb.1]; exact hbb
 have hbn : bb.length = nb := hrb.1.symm
 have HRB := Lib.hid hrb
 have HAT := Lib.hid (at_any c S s n hok.len w h)
 have HSZ := Lib.hid (rsize_any c S s hok.len hok.tot w h)
 obtain ⟨a, cap, c0, c1, c2, c3, hr⟩ := h.row
 clear hrb
 cases hdn : s.dn with
 | true =>
  rw [hdn] at c1
  have hres : Hid (appendS s n bb = (s, 12)) := rapp_err (by unfold appE; rw [hdn]; rfl) (by decide)
  clear hr hdn h
  go_enter Tryz.func77, Tryz.ntmps77
  go_wp2_with (go_at_call 24; ((with_reducible refine (HAT.out).mono ?_); rintro e w1 ⟨rfl, rfl⟩))
  go_ret
  exact RTold.same (by rw [hres.out]; rfl) HRF.out (by rw [hres.out]) (Fr.refl _ _) HS.out
 | false =>
  rw [hdn] at c1
  rcases atI_get (n := n) (l := s.fs) with ⟨f, k, hg, hf, hk, hat⟩ | ⟨hg, hat⟩
  · rw [hat] at HAT
    obtain ⟨T, hT⟩ : ∃ T, tot s.fs = T := ⟨_, rfl⟩
    rw [hT] at HSZ
    have htl : T ≤ 4194304 := by rw [← hT]; exact hok.tot
    by_cases hfull : 4194304 < bb.length + T
    · have hres : Hid (appendS s n bb = (s, 11)) := rapp_err (by unfold appE; rw [hdn, hg, hT]; simp [hfull]) (by decide)
      have d1 : decide ((4194304 : Int) - (T : Nat) < (nb : Nat)) = true := by simp; omega
      clear hr hdn h hg hf hat hT
      go_enter Tryz.func77, Tryz.ntmps77
      go_wp2_with (first | (go_at_call 24; ((with_reducible refine (HAT.out).mono ?_); rintro e w1 ⟨rfl, rfl⟩)) | (go_at_call 27; ((with_reducible refine (HSZ.out).mono ?_); rintro e w1 ⟨rfl, rfl⟩)))
      go_ret
      exact RTold.same (by rw [hres.out]; rfl) HRF.out (by rw [hres.out]) (Fr.refl _ _) HS.out
    · have d1 : decide ((4194304 : Int) - (T : Nat) < (nb : Nat)) = false := by simp; omega
      have he : appE s n bb = 0 := by unfold appE; rw [hdn, hg, hT]; simp; omega
      obtain ⟨s1, hs1⟩ : ∃ s1, (fallS s).1 = s1 := ⟨_, rfl⟩
      obtain ⟨fb, hfb⟩ : ∃ fb, (fallS s).2 = fb := ⟨_, rfl⟩
      have hfn := (getF_some hg).2
      have hres : Hid (appendS s n bb = ({ s1 with fs := s.fs.set k ⟨f.nm, f.dt ++ bb, f.sf⟩ }, if fb = true then 12 else 0)) := by
       show _ = _
       rw [rapp_ok he hfb hs1, ← hfn, upd_set hok.srt hf]
      have HFA := Lib.hid (falls_at (c := c) hB hok hdn hfb hs1 (s.fs.set k ⟨f.nm, f.dt ++ bb, f.sf⟩))
      obtain ⟨D, hD⟩ : ∃ D, f.dt ++ bb = D := ⟨_, rfl⟩
      have hDl : f.dt.length + nb = D.length := by rw [← hD, List.length_append, hbn]
      rw [hD] at hres HFA
      have HDD := Lib.hid hD
      have HDL := Lib.hid hDl
      clear hD hDl
      obtain ⟨m, hm⟩ : ∃ m, s.fs.length = m := ⟨_, rfl⟩
      obtain ⟨b, cap1, aj, cj, hc1, v0, v1, v2, v3, v4, v5, v6, v7, v8⟩ := h.view hf
      have hdl : f.dt.length ≤ 4194304 := by have := dt_le_tot (List.mem_of_getElem? hf); omega
      rw [hm] at hc1 hlen hk
      have c0 := cell_of_row w c 0 _ _ _ hc1
      have HFK := Lib.hid hf
      have HC0 := Lib.hid c0
      have HSB := Lib.hid v8
      have H8 := Lib.hid v5
      have HBW : Hid (b < w.heap.size) := h.lt b v8
      have HV3 := Lib.hid v3
      clear hr hdn h hg hf hat hm hfb hs1 he hfn hc1 v3 v4 v5 v6 v7 v8 hT hfull v0 v2
      go_enter Tryz.func77, Tryz.ntmps77
      go_wp2_with (first | (go_at_call 24; ((with_reducible refine (HAT.out).mono ?_); rintro e w1 ⟨rfl, rfl⟩)) | (go_at_call 27; ((with_reducible refine (HSZ.out).mono ?_); rintro e w1 ⟨rfl, rfl⟩)))
      refine wp_region_ht 18 (fun W => W.cell? ⟨c, 0, none⟩ = some (.slice (some ⟨b, 0, none⟩) m cap1) ∧ W.cell? ⟨b, k * 3 + 1, none⟩ = some (.slice aj f.dt.length cj)) (by kernel_rfl) (by kernel_rfl) ?_ (fun hHeld => ?_)
      · exact ⟨c0, v1⟩
      try simp only [Act.put, List.setIfInBounds_toArray, List.set_cons_zero, List.set_cons_succ]
      refine wpHT_takeD (i := 0) (d := 26) (v := ?_) (by kernel_rfl) rfl rfl (by decide) (by kernel_rfl) (by kernel_rfl) (fun _ _ _ h => h) (Or.inl ⟨by kernel_rfl, ?_⟩) (by assumption) ?_
      rotate_left
      · intro w hSw; (try dsimp only at hSw); go_simp; (try with_reducible rfl)
      try simp only [Act.put, List.setIfInBounds_toArray, List.set_cons_zero, List.set_cons_succ]
      refine wpHT_takeD (i := 1) (d := 27) (v := ?_) (by kernel_rfl) rfl rfl (by decide) (by kernel_rfl) (by kernel_rfl) (fun _ _ _ h => h) (Or.inl ⟨by kernel_rfl, ?_⟩) (by assumption) ?_
      rotate_left
      · intro w hSw; (try dsimp only at hSw); go_simp; (try with_reducible rfl)
      try simp only [Act.put, List.setIfInBounds_toArray, List.set_cons_zero, List.set_cons_succ]
      refine wpHT_takeD (i := 2) (d := 28) (v := ?_) (by kernel_rfl) rfl rfl (by decide) (by kernel_rfl) (by kernel_rfl) (fun _ _ _ h => h) (Or.inl ⟨by kernel_rfl, ?_⟩) (by assumption) ?_
      rotate_left
      · intro w hSw; (try dsimp only at hSw); go_simp; (try with_reducible rfl)
      try simp only [Act.put, List.setIfInBounds_toArray, List.set_cons_zero, List.set_cons_succ]
      refine wpHT_takeD (i := 3) (d := 29) (v := ?_) (by kernel_rfl) rfl rfl (by decide) (by kernel_rfl) (by kernel_rfl) (fun _ _ _ h => h) (Or.inl ⟨by kernel_rfl, ?_⟩) (by assumption) ?_
      rotate_left
      · intro w hSw; (try dsimp only at hSw); go_simp; (try with_reducible rfl)
      try simp only [Act.put, List.setIfInBounds_toArray, List.set_cons_zero, List.set_cons_succ]
      refine wpHT_takeD (i := 4) (d := 30) (v := ?_) (by kernel_rfl) rfl rfl (by decide) (by kernel_rfl) (by kernel_rfl) (fun _ _ _ h => h) (Or.inl ⟨by kernel_rfl, ?_⟩) (by assumption) ?_
      rotate_left
      · intro w hSw; (try dsimp only at hSw); go_simp; (try with_reducible rfl)
      try simp only [Act.put, List.setIfInBounds_toArray, List.set_cons_zero, List.set_cons_succ]
      refine wpHT_takeD (i := 5) (d := 31) (v := ?_) (by kernel_rfl) rfl rfl (by decide) (by kernel_rfl) (by kernel_rfl) (fun _ _ _ h => h) (Or.inl ⟨by kernel_rfl, ?_⟩) (by assumption) ?_
      rotate_left
      · intro w hSw; (try dsimp only at hSw); go_simp; (try with_reducible rfl)
      try simp only [Act.put, List.setIfInBounds_toArray, List.set_cons_zero, List.set_cons_succ]
      refine wpHT_takeD (i := 6) (d := 32) (v := ?_) (by kernel_rfl) rfl rfl (by decide) (by kernel_rfl) (by kernel_rfl) (fun _ _ _ h => h) (Or.inl ⟨by kernel_rfl, ?_⟩) (by assumption) ?_
      rotate_left
      · intro w hSw; (try dsimp only at hSw); go_simp; (try with_reducible rfl)
      try simp only [Act.put, List.setIfInBounds_toArray, List.set_cons_zero, List.set_cons_succ]
      refine wpHT_takeD (i := 7) (d := 33) (v := ?_) (by kernel_rfl) rfl rfl (by decide) (by kernel_rfl) (by kernel_rfl) (fun _ _ _ h => h) (Or.inl ⟨by kernel_rfl, ?_⟩) (by assumption) ?_
      rotate_left
      · intro w hSw; (try dsimp only at hSw); go_simp; (try with_reducible rfl)
      try simp only [Act.put, List.setIfInBounds_toArray, List.set_cons_zero, List.set_cons_succ]
      refine wpHT_takeD (i := 8) (d := 34) (v := ?_) (by kernel_rfl) rfl rfl (by decide) (by kernel_rfl) (by kernel_rfl) (fun _ _ _ h => h) (Or.inl ⟨by kernel_rfl, ?_⟩) (by assumption) ?_
      rotate_left
      · intro w hSw; (try dsimp only at hSw); go_simp; (try with_reducible rfl)
      try simp only [Act.put, List.setIfInBounds_toArray, List.set_cons_zero, List.set_cons_succ]
      refine wpHT_takeD (i := 9) (d := 35) (v := ?_) (by kernel_rfl) rfl rfl (by decide) (by kernel_rfl) (by kernel_rfl) (fun _ _ _ h => h) (Or.inl ⟨by kernel_rfl, ?_⟩) (by assumption) ?_
      rotate_left
      · intro w hSw; (try dsimp only at hSw); go_simp; (try with_reducible rfl)
      try simp only [Act.put, List.setIfInBounds_toArray, List.set_cons_zero, List.set_cons_succ]
      refine wpHT_takeD (i := 10) (d := 36) (v := ?_) (by kernel_rfl) rfl rfl (by decide) (by kernel_rfl) (by kernel_rfl) (fun _ _ _ h => h) (Or.inl ⟨by kernel_rfl, ?_⟩) (by assumption) ?_
      rotate_left
      · intro w hSw; (try dsimp only at hSw); go_simp; (try with_reducible rfl)
      try simp only [Act.put, List.setIfInBounds_toArray, List.set_cons_zero, List.set_cons_succ]
      refine wpHT_takeD (i := 11) (d := 37) (v := ?_) (by kernel_rfl) rfl rfl (by decide) (by kernel_rfl) (by kernel_rfl) (fun _ _ _ h => h) (Or.inl ⟨by kernel_rfl, ?_⟩) (by assumption) ?_
      rotate_left
      · intro w hSw; (try dsimp only at hSw); go_simp; (try with_reducible rfl)
      try simp only [Act.put, List.setIfInBounds_toArray, List.set_cons_zero, List.set_cons_succ]
      refine wpHT_takeD (i := 12) (d := 38) (v := ?_) (by kernel_rfl) rfl rfl (by decide) (by kernel_rfl) (by kernel_rfl) (fun _ _ _ h => h) (Or.inl ⟨by kernel_rfl, ?_⟩) (by assumption) ?_
      rotate_left
      · intro w hSw; (try dsimp only at hSw); go_simp; (try with_reducible rfl)
      try simp only [Act.put, List.setIfInBounds_toArray, List.set_cons_zero, List.set_cons_succ]
      refine wpHT_takeD (i := 14) (d := 40) (v := ?_) (by kernel_rfl) rfl rfl (by decide) (by kernel_rfl) (by kernel_rfl) (fun _ _ _ h => h) (Or.inl ⟨by kernel_rfl, ?_⟩) (by assumption) ?_
      rotate_left
      · intro w hSw; (try dsimp only at hSw); go_simp; (try with_reducible rfl)
      try simp only [Act.put, List.setIfInBounds_toArray, List.set_cons_zero, List.set_cons_succ]
      refine wpHT_one (i := 13) (by kernel_rfl) rfl (by decide) (fun K hK => ?_)
      go_simp
      go_at_call 26
      refine (copyBytes_any _ _ _ f.dt _ (H8.out.below ((Below.refl _ w).drew)) (by omega)).mono ?_
      rintro e W1 ⟨v39, rfl, ho, hb⟩
      have hb1 : Below w.heap.size w W1 := ((Below.refl _ w).drew).trans hb
      have ho1 : Own8 W1 w.heap.size 5 v39 f.dt := ho
      have HO1 := Lib.hid ho1
      have HB1 := Lib.hid hb1
      have k0 := cell_below c0 hb1
      have k1 := cell_below v1 hb1
      clear ho hb ho1 hb1
      refine hK.out _ _ ?_ (fun hHeld => ?_)
      · exact ⟨k0, k1⟩
      clear hK K
      try simp only [Act.put, List.setIfInBounds_toArray, List.set_cons_zero, List.set_cons_succ]
      refine wpHT_one (i := 15) (by kernel_rfl) rfl (by decide) (fun K hK => ?_)
      refine step_app2 S5 rfl _ _ rfl w.heap.size rfl HO1.out rfl (HRB.out.below HB1.out).2 (B8_one _) (by omega) (by unfold maxLen; omega) HB1.out.size ?_
      intro v2 w2 ho2 hg2 hl2
      have ho2 : Own8 w2 w.heap.size 5 v2 D := Own8.mk ho2 HDL.out (by rw [← HDD.out, B8_append])
      have hb2 : Below w.heap.size w w2 := HB1.out.grown hg2 HB1.out.size (fun q hq => (World.ownsRow.lt HO1.out q hq).1)
      have hfz : w2.frozen? ⟨b, k * 3 + 1, none⟩ = false := ((Fr.of_new (S := fun _ => False) hb2).frozen (p := ⟨b, k * 3 + 1, none⟩) HBW.out (fun h => h)).trans HV3.out
      have HC2 := Lib.hid (cell_below c0 hb2)
      have k0 := cell_below c0 hb2
      have k1 := cell_below v1 hb2
      have HO2 := Lib.hid ho2
      have HB2 := Lib.hid hb2
      obtain ⟨a2, cap2, rfl, hr2⟩ := ho2.rd
      have HR2 := Lib.hid hr2
      clear ho2 hg2 hl2 hb2 hr2
      refine hK.out _ _ ?_ (fun hHeld => ?_)
      · exact ⟨k0, k1⟩
      clear hK K
      try simp only [Act.put, List.setIfInBounds_toArray, List.set_cons_zero, List.set_cons_succ]
      refine wpHT_takeD (i := 16) (d := 42) (v := ?_) (by kernel_rfl) rfl rfl (by decide) (by kernel_rfl) (by kernel_rfl) (fun _ _ _ h => h) (Or.inl ⟨by kernel_rfl, ?_⟩) (by assumption) ?_
      rotate_left
      · intro w hSw; (try dsimp only at hSw); go_simp; (try with_reducible rfl)
      try simp only [Act.put, List.setIfInBounds_toArray, List.set_cons_zero, List.set_cons_succ]
      refine wpHT_takeD (i := 17) (d := 43) (v := ?_) (by kernel_rfl) rfl rfl (by decide) (by kernel_rfl) (by kernel_rfl) (fun _ _ _ h => h) (Or.inl ⟨by kernel_rfl, ?_⟩) (by assumption) ?_
      rotate_left
      · intro w hSw; (try dsimp only at hSw); go_simp; (try with_reducible rfl)
      try simp only [Act.put, List.setIfInBounds_toArray, List.set_cons_zero, List.set_cons_succ]
      refine wpHT_done (by kernel_rfl) ?_
      simp only [List.drop_succ_cons, List.drop_zero]
      go_wp2_with fail
      have hG : Rf w2 c (Sx S w w2) s := (HRF.out.below HB2.out).grow (fun q hq => .inl hq) (fun q hq => hq.elim (fun h => Nat.lt_of_lt_of_le (HS.out q h) HB2.out.size) (fun h => h.2))
      have hset := hG.setD HFK.out HC2.out HR2.out (fun _ q hq => by
       have h1 := World.ownsRow.lt HO2.out q (by rw [ownBlock_sl]; exact hq)
       have h2 := HS.out c HIN.out
       have h3 := HBW.out
       exact ⟨.inr h1, by omega, by omega⟩)
      go_at_call 75
      refine (HFA.out _ _ hset).mono ?_
      rintro e w4 ⟨rfl, hr4, hf4⟩
      have hfr : Fr S w w4 := ((Fr.of_new (S := S) HB2.out).setCell (fun _ => HSB.out) _).trans (hf4.one HIN.out)
      have hsz := hf4.size
      have HR4 := Lib.hid hr4
      have HFR := Lib.hid hfr
      have HZ : Hid (w2.heap.size ≤ w4.heap.size) := by show w2.heap.size ≤ w4.heap.size; simpa [World.setCell] using hsz
      clear hG hset hr4 hf4 hfr hsz
      cases fb with
      | true =>
       go_wp2
       go_ret
       exact RTold.at (by rw [hres.out]; rfl) HR4.out (by rw [hres.out]) (fun q hq => hq.elim .inl fun h => .inr ⟨h.1, Nat.lt_of_lt_of_le h.2 HZ.out⟩) HFR.out HS.out
      | false =>
       go_wp2
       go_ret
       exact RTold.at (by rw [hres.out]; rfl) HR4.out (by rw [hres.out]) (fun q hq => hq.elim .inl fun h => .inr ⟨h.1, Nat.lt_of_lt_of_le h.2 HZ.out⟩) HFR.out HS.out
  · rw [hat] at HAT
    have hres : Hid (appendS s n bb = (s, 8)) := rapp_err (by unfold appE; rw [hdn, hg]; rfl) (by decide)
    clear hr hdn h hg hat
    go_enter Tryz.func77, Tryz.ntmps77
    go_wp2_with (go_at_call 24; ((with_reducible refine (HAT.out).mono ?_); rintro e w1 ⟨rfl, rfl⟩))
    go_ret
    exact RTold.same (by rw [hres.out]; rfl) HRF.out (by rw [hres.out]) (Fr.refl _ _) HS.out
end Go.Proofs.YtjjcilinghgphaaGreat

/-! ### The reference's disk: Cut. -/
namespace Go.Proofs.YtjjcilinghgphaaGreat
open Go.RowKit Go.Maps Go.Sort
set_option maxRecDepth 100000
attribute [local go_sem] bs_size bs_toList

theorem size_setCell (w : World) (p : Addr) (v : Value) : (w.setCell p v).heap.size = w.heap.size := by simp [World.setCell]
theorem Rf.drew {w : World} {c : Nat} {S : Nat → Prop} {s : DS} (h : Rf w c S s) : Rf w.drew c S s := h.keep ((Fr.refl (fun _ => False) w).drew) (fun _ _ h => h)
theorem get_set_self {α : Type} {l : List α} {k : Nat} {x y : α} (h : l[k]? = some x) : (l.set k y)[k]? = some y := by
 rw [List.getElem?_set, if_pos rfl, if_pos (List.getElem?_eq_some_iff.1 h).1]
set_option maxHeartbeats 4000000 in
theorem rcut_any (c : Nat) (S : Nat → Prop) (B : Int) (hB : B ≤ 1000000000000) (s : DS) (n : List UInt8) (N : Int) (hN0 : -9223372036854775808 ≤ N) (hN1 : N ≤ 9223372036854775807) (hok : DOk B s) (w : World) (h : Rf w c S s) :
 Calls Tryz.prog 67 #[.pointer (some ⟨c, 0, none⟩), .string (bs n), .int .i64 N] w (RTold w c S (cutS s n N)) := by
 have HS := Lib.hid h.lt
 have HIN := Lib.hid h.in
 have HRF := Lib.hid h
 have hlen := hok.len
 have HAT := Lib.hid (at_any c S s n hok.len w h)
 obtain ⟨a, cap, c0, c1, c2, c3, hr⟩ := h.row
 cases hdn : s.dn with
 | true =>
  rw [hdn] at c1
  have hres : Hid (cutS s n N = (s, 12)) := errW_dn hdn
  clear hr hdn h
  go_enter Tryz.func67, Tryz.ntmps67
  go_wp2_with (go_at_call 24; ((with_reducible refine (HAT.out).mono ?_); rintro e w1 ⟨rfl, rfl⟩))
  go_ret
  exact RTold.same (by rw [hres.out]; rfl) HRF.out (by rw [hres.out]) (Fr.refl _ _) HS.out
 | false =>
  rw [hdn] at c1
  rcases atI_get (n := n) (l := s.fs) with ⟨f, k, hg, hf, hk, hat⟩ | ⟨hg, hat⟩
  · rw [hat] at HAT
    obtain ⟨m, hm⟩ : ∃ m, s.fs.length = m := ⟨_, rfl⟩
    clear c0
    obtain ⟨b, cap1, aj, cj, hc1, v0, v1, v2, v3, v4, v5, v6, v7, v8⟩ := h.view hf
    have hdl : f.dt.length ≤ 4194304 := Nat.le_trans (dt_le_tot (List.mem_of_getElem? hf)) hok.tot
    rw [hm] at hc1 hlen hk
    have c0 := cell_of_row w c 0 _ _ _ hc1
    have hsfl : f.sf ≤ f.dt.length := (hok.each f (List.mem_of_getElem? hf)).2.2
    clear v3 v4 v5 v6 v7 v8 v0 v2 hc1
    by_cases hbad : N < 0 ∨ (f.dt.length : Int) < N
    · have hres : Hid (cutS s n N = (s, 1)) := by
       have : cutE s n N = 1 := by unfold cutE; rw [hg]; simp only []; rw [if_pos hbad]
       unfold cutS; rw [this]; exact errW_err hdn (by decide)
      by_cases hneg : N < 0
      · have d1 : decide (N < 0) = true := by simpa using hneg
        clear hr hdn h hg hf hat hbad hm
        go_enter Tryz.func67, Tryz.ntmps67
        go_wp2_with (go_at_call 24; ((with_reducible refine (HAT.out).mono ?_); rintro e w1 ⟨rfl, rfl⟩))
        go_ret
        exact RTold.same (by rw [hres.out]; rfl) HRF.out (by rw [hres.out]) (Fr.refl _ _) HS.out
      · have d1 : decide (N < 0) = false := by simpa using hneg
        have hgt : (f.dt.length : Int) < N := hbad.resolve_left hneg
        have d2 : decide ((f.dt.length : Int) < N) = true := by simpa using hgt
        clear hr hdn h hg hf hat hbad hm
        go_enter Tryz.func67, Tryz.ntmps67
        go_wp2_with (go_at_call 24; ((with_reducible refine (HAT.out).mono ?_); rintro e w1 ⟨rfl, rfl⟩))
        go_ret
        exact RTold.same (by rw [hres.out]; rfl) HRF.out (by rw [hres.out]) (Fr.refl _ _) HS.out
    · obtain ⟨K, rfl⟩ : ∃ K : Nat, N = (K : Nat) := ⟨N.toNat, by omega⟩
      have hK : K ≤ f.dt.length := by omega
      have he : cutE s n (K : Nat) = 0 := by unfold cutE; rw [hg]; simp only []; rw [if_neg hbad]
      have d1 : decide ((K : Int) < 0) = false := by simp
      have d2 : decide (f.dt.length < K) = false := by simp; omega
      obtain ⟨s1, hs1⟩ : ∃ s1, (fallS s).1 = s1 := ⟨_, rfl⟩
      have hfs1 : s1.fs = s.fs := by rw [← hs1]; exact fallS_fs s
      cases hfb : (fallS s).2 with
      | true =>
       have HFA := Lib.hid (falls_out hB hok hdn h hfb hs1)
       have hres : Hid (cutS s n (K : Nat) = (s1, 12)) := by unfold cutS; rw [he, ← hs1]; exact errW_fall hdn rfl hfb
       clear hr hdn h hg hf hat hm hfb hs1 hfs1 he hbad
       go_enter Tryz.func67, Tryz.ntmps67
       go_wp2_with (first | (go_at_call 24; ((with_reducible refine (HAT.out).mono ?_); rintro e w1 ⟨rfl, rfl⟩)) | (go_at_call 75; ((with_reducible refine (HFA.out).mono ?_); rintro e w1 ⟨rfl, hr1, hf1⟩; have HR1 := Lib.hid hr1; have HF1 := Lib.hid hf1; clear hr1 hf1)))
       go_ret
       exact RTold.same (by rw [hres.out]; rfl) HR1.out (by rw [hres.out]) (HF1.out.one HIN.out) HS.out
      | false =>
       have HFA := Lib.hid (falls_out hB hok hdn h hfb hs1)
       have hfn := (getF_some hg).2
       have hf1 : s1.fs[k]? = some f := by rw [hfs1]; exact hf
       have hres : Hid (cutS s n (K : Nat) = ({ s1 with fs := s1.fs.set k ⟨f.nm, f.dt.take K, min f.sf K⟩ }, 0)) := by
        unfold cutS; rw [he, errW_ok hdn rfl hfb, hs1]
        show (({ s1 with fs := updF n (fun f => ⟨f.nm, f.dt.take (K : Int).toNat, min f.sf (K : Int).toNat⟩) s1.fs } : DS), (0 : Int)) = _
        rw [hfs1, ← hfn, upd_set hok.srt hf]; rfl
       have hm1 : s1.fs.length = m := by rw [hfs1]; exact hm
       have HFK := Lib.hid hf1
       have HM1 := Lib.hid hm1
       clear hr hdn h hg hf hat hm hfb hs1 hfs1 he hfn hf1 hm1 hbad
       go_enter Tryz.func67, Tryz.ntmps67
       go_wp2_with (go_at_call 24; ((with_reducible refine (HAT.out).mono ?_); rintro e w1 ⟨rfl, rfl⟩))
       go_at_call 75
       refine (HFA.out).mono ?_
       rintro e w1 ⟨rfl, hr1, hf1⟩
       clear c0 v1 c1 c2 c3
       obtain ⟨b, cap1, aj, cj, hc1, v0, v1, v2, v3, v4, v5, v6, v7, v8⟩ := hr1.view HFK.out
       rw [HM1.out] at hc1
       have c0 := cell_of_row w1 c 0 _ _ _ hc1
       have HR1 := Lib.hid hr1
       have HF1 := Lib.hid (hf1.one HIN.out)
       have HS1 := Lib.hid hr1.lt
       have HBW : Hid (b < w1.heap.size) := hr1.lt b v8
       have HC0 := Lib.hid c0
       have HSB := Lib.hid v8
       have H8 := Lib.hid v5
       have HV3 := Lib.hid v3
       obtain ⟨ad, cd, hrun, hrd⟩ := run_slice8 (P := Tryz.prog) S5 v5 none (some (.int .i64 (K : Nat))) 0 K (.inl ⟨rfl, rfl⟩) (.inr rfl) (Nat.zero_le _) hK
       rw [Nat.sub_zero] at hrun hrd
       rw [List.drop_zero] at hrd
       obtain ⟨D, hD⟩ : ∃ D, f.dt.take K = D := ⟨_, rfl⟩
       have hDl : D.length = K := by rw [← hD, List.length_take]; omega
       rw [hD] at hrd hres
       have HRD := Lib.hid hrd
       have HDL := Lib.hid hDl
       clear hr1 hf1 hc1 v3 v4 v5 v6 v7 v8 v0 v2 hrd hD hDl
       go_wp2_with fail
       refine wp_region_ht 18 (fun W => W.cell? ⟨c, 0, none⟩ = some (.slice (some ⟨b, 0, none⟩) m cap1) ∧ W.cell? ⟨b, k * 3 + 1, none⟩ = some (.slice aj f.dt.length cj)) (by kernel_rfl) (by kernel_rfl) ?_ (fun hHeld => ?_)
       · exact ⟨c0, v1⟩
       try simp only [Act.put, List.setIfInBounds_toArray, List.set_cons_zero, List.set_cons_succ]
       refine wpHT_takeD (i := 0) (d := 38) (v := ?_) (by kernel_rfl) rfl rfl (by decide) (by kernel_rfl) (by kernel_rfl) (fun _ _ _ h => h) (Or.inl ⟨by kernel_rfl, ?_⟩) (by assumption) ?_
       rotate_left
       · intro w hSw; (try dsimp only at hSw); go_simp; (try with_reducible rfl)
       try simp only [Act.put, List.setIfInBounds_toArray, List.set_cons_zero, List.set_cons_succ]
       refine wpHT_takeD (i := 1) (d := 39) (v := ?_) (by kernel_rfl) rfl rfl (by decide) (by kernel_rfl) (by kernel_rfl) (fun _ _ _ h => h) (Or.inl ⟨by kernel_rfl, ?_⟩) (by assumption) ?_
       rotate_left
       · intro w hSw; (try dsimp only at hSw); go_simp; (try with_reducible rfl)
       try simp only [Act.put, List.setIfInBounds_toArray, List.set_cons_zero, List.set_cons_succ]
       refine wpHT_takeD (i := 2) (d := 40) (v := ?_) (by kernel_rfl) rfl rfl (by decide) (by kernel_rfl) (by kernel_rfl) (fun _ _ _ h => h) (Or.inl ⟨by kernel_rfl, ?_⟩) (by assumption) ?_
       rotate_left
       · intro w hSw; (try dsimp only at hSw); go_simp; (try with_reducible rfl)
       try simp only [Act.put, List.setIfInBounds_toArray, List.set_cons_zero, List.set_cons_succ]
       refine wpHT_takeD (i := 3) (d := 41) (v := ?_) (by kernel_rfl) rfl rfl (by decide) (by kernel_rfl) (by kernel_rfl) (fun _ _ _ h => h) (Or.inl ⟨by kernel_rfl, ?_⟩) (by assumption) ?_
       rotate_left
       · intro w hSw; (try dsimp only at hSw); go_simp; (try with_reducible rfl)
       try simp only [Act.put, List.setIfInBounds_toArray, List.set_cons_zero, List.set_cons_succ]
       refine wpHT_takeD (i := 4) (d := 42) (v := ?_) (by kernel_rfl) rfl rfl (by decide) (by kernel_rfl) (by kernel_rfl) (fun _ _ _ h => h) (Or.inl ⟨by kernel_rfl, ?_⟩) (by assumption) ?_
       rotate_left
       · intro w hSw; (try dsimp only at hSw); go_simp; (try with_reducible rfl)
       try simp only [Act.put, List.setIfInBounds_toArray, List.set_cons_zero, List.set_cons_succ]
       refine wpHT_takeD (i := 5) (d := 43) (v := ?_) (by kernel_rfl) rfl rfl (by decide) (by kernel_rfl) (by kernel_rfl) (fun _ _ _ h => h) (Or.inl ⟨by kernel_rfl, ?_⟩) (by assumption) ?_
       rotate_left
       · intro w hSw; (try dsimp only at hSw); go_simp; (try with_reducible rfl)
       try simp only [Act.put, List.setIfInBounds_toArray, List.set_cons_zero, List.set_cons_succ]
       refine wpHT_takeD (i := 6) (d := 44) (v := ?_) (by kernel_rfl) rfl rfl (by decide) (by kernel_rfl) (by kernel_rfl) (fun _ _ _ h => h) (Or.inl ⟨by kernel_rfl, ?_⟩) (by assumption) ?_
       rotate_left
       · intro w hSw; (try dsimp only at hSw); go_simp; (try with_reducible rfl)
       try simp only [Act.put, List.setIfInBounds_toArray, List.set_cons_zero, List.set_cons_succ]
       refine wpHT_takeD (i := 7) (d := 45) (v := ?_) (by kernel_rfl) rfl rfl (by decide) (by kernel_rfl) (by kernel_rfl) (fun _ _ _ h => h) (Or.inl ⟨by kernel_rfl, ?_⟩) (by assumption) ?_
       rotate_left
       · intro w hSw; (try dsimp only at hSw); go_simp; (try with_reducible rfl)
       try simp only [Act.put, List.setIfInBounds_toArray, List.set_cons_zero, List.set_cons_succ]
       refine wpHT_takeD (i := 8) (d := 46) (v := ?_) (by kernel_rfl) rfl rfl (by decide) (by kernel_rfl) (by kernel_rfl) (fun _ _ _ h => h) (Or.inl ⟨by kernel_rfl, ?_⟩) (by assumption) ?_
       rotate_left
       · intro w hSw; (try dsimp only at hSw); go_simp; (try with_reducible rfl)
       try simp only [Act.put, List.setIfInBounds_toArray, List.set_cons_zero, List.set_cons_succ]
       refine wpHT_takeD (i := 9) (d := 47) (v := ?_) (by kernel_rfl) rfl rfl (by decide) (by kernel_rfl) (by kernel_rfl) (fun _ _ _ h => h) (Or.inl ⟨by kernel_rfl, ?_⟩) (by assumption) ?_
       rotate_left
       · intro w hSw; (try dsimp only at hSw); go_simp; (try with_reducible rfl)
       try simp only [Act.put, List.setIfInBounds_toArray, List.set_cons_zero, List.set_cons_succ]
       refine wpHT_takeD (i := 10) (d := 48) (v := ?_) (by kernel_rfl) rfl rfl (by decide) (by kernel_rfl) (by kernel_rfl) (fun _ _ _ h => h) (Or.inl ⟨by kernel_rfl, ?_⟩) (by assumption) ?_
       rotate_left
       · intro w hSw; (try dsimp only at hSw); go_simp; (try with_reducible rfl)
       try simp only [Act.put, List.setIfInBounds_toArray, List.set_cons_zero, List.set_cons_succ]
       refine wpHT_takeD (i := 11) (d := 49) (v := ?_) (by kernel_rfl) rfl rfl (by decide) (by kernel_rfl) (by kernel_rfl) (fun _ _ _ h => h) (Or.inl ⟨by kernel_rfl, ?_⟩) (by assumption) ?_
       rotate_left
       · intro w hSw; (try dsimp only at hSw); go_simp; (try with_reducible rfl)
       try simp only [Act.put, List.setIfInBounds_toArray, List.set_cons_zero, List.set_cons_succ]
       refine wpHT_takeD (i := 12) (d := 50) (v := ?_) (by kernel_rfl) rfl rfl (by decide) (by kernel_rfl) (by kernel_rfl) (fun _ _ _ h => h) (Or.inl ⟨by kernel_rfl, ?_⟩) (by assumption) ?_
       rotate_left
       · intro w hSw; (try dsimp only at hSw); go_simp; (try with_reducible rfl)
       try simp only [Act.put, List.setIfInBounds_toArray, List.set_cons_zero, List.set_cons_succ]
       refine wpHT_takeD (i := 13) (d := 51) (v := ?_) (by kernel_rfl) rfl rfl (by decide) (by kernel_rfl) (by kernel_rfl) (fun _ _ _ h => h) (Or.inl ⟨by kernel_rfl, ?_⟩) (by assumption) ?_
       rotate_left
       · intro w hSw; (try dsimp only at hSw); go_simp; (try with_reducible rfl)
       try simp only [Act.put, List.setIfInBounds_toArray, List.set_cons_zero, List.set_cons_succ]
       refine wpHT_takeD (i := 14) (d := 52) (v := ?_) (by kernel_rfl) rfl rfl (by decide) (by kernel_rfl) (by kernel_rfl) (fun _ _ _ h => h) (Or.inl ⟨by kernel_rfl, ?_⟩) (by assumption) ?_
       rotate_left
       · intro w hSw; (try dsimp only at hSw); go_simp; (try with_reducible rfl)
       try simp only [Act.put, List.setIfInBounds_toArray, List.set_cons_zero, List.set_cons_succ]
       refine wpHT_one (i := 15) (by kernel_rfl) rfl (by decide) (fun K hK => ?_)
       go_simp
       go_at_call 26
       refine (copyBytes_any _ _ _ D _ (HRD.out.below ((Below.refl _ w1).drew)) (by omega)).mono ?_
       rintro e W1 ⟨v39, rfl, ho, hb⟩
       have hb1 : Below w1.heap.size w1 W1 := ((Below.refl _ w1).drew).trans hb
       have ho1 : Own8 W1 w1.heap.size 5 v39 D := ho
       have HO1 := Lib.hid ho1
       have HB1 := Lib.hid hb1
       have hfz : W1.frozen? ⟨b, k * 3 + 1, none⟩ = false := ((Fr.of_new (S := fun _ => False) hb1).frozen (p := ⟨b, k * 3 + 1, none⟩) HBW.out (fun h => h)).trans HV3.out
       have HC2 := Lib.hid (cell_below c0 hb1)
       have k0 := cell_below c0 hb1
       have k1 := cell_below v1 hb1
       obtain ⟨a2, cap2, rfl, hr2⟩ := ho1.rd
       have HR2 := Lib.hid hr2
       clear ho hb ho1 hb1 hr2
       refine hK.out _ _ ?_ (fun hHeld => ?_)
       · exact ⟨k0, k1⟩
       clear hK K
       try simp only [Act.put, List.setIfInBounds_toArray, List.set_cons_zero, List.set_cons_succ]
       refine wpHT_takeD (i := 16) (d := 54) (v := ?_) (by kernel_rfl) rfl rfl (by decide) (by kernel_rfl) (by kernel_rfl) (fun _ _ _ h => h) (Or.inl ⟨by kernel_rfl, ?_⟩) (by assumption) ?_
       rotate_left
       · intro w hSw; (try dsimp only at hSw); go_simp; (try with_reducible rfl)
       try simp only [Act.put, List.setIfInBounds_toArray, List.set_cons_zero, List.set_cons_succ]
       refine wpHT_takeD (i := 17) (d := 55) (v := ?_) (by kernel_rfl) rfl rfl (by decide) (by kernel_rfl) (by kernel_rfl) (fun _ _ _ h => h) (Or.inl ⟨by kernel_rfl, ?_⟩) (by assumption) ?_
       rotate_left
       · intro w hSw; (try dsimp only at hSw); go_simp; (try with_reducible rfl)
       try simp only [Act.put, List.setIfInBounds_toArray, List.set_cons_zero, List.set_cons_succ]
       refine wpHT_done (by kernel_rfl) ?_
       simp only [List.drop_succ_cons, List.drop_zero]
       go_wp2_with fail
       have hG : Rf W1 c (Sx S w1 W1) s1 := (HR1.out.below HB1.out).grow (fun q hq => .inl hq) (fun q hq => hq.elim (fun h => Nat.lt_of_lt_of_le (HS1.out q h) HB1.out.size) (fun h => h.2))
       have hset := hG.setD HFK.out HC2.out HR2.out (fun _ q hq => by
        have h1 := World.ownsRow.lt HO1.out q (by rw [ownBlock_sl]; exact hq)
        have h2 := HS1.out c HIN.out
        have h3 := HBW.out
        exact ⟨.inr h1, by omega, by omega⟩)
       have hfr : Fr S w (W1.setCell ⟨b, k * 3 + 1, none⟩ (.slice a2 D.length cap2)) := HF1.out.trans ((Fr.of_new (S := S) HB1.out).setCell (fun _ => HSB.out) _)
       obtain ⟨W2, hW2⟩ : ∃ W2, W1.setCell ⟨b, k * 3 + 1, none⟩ (.slice a2 D.length cap2) = W2 := ⟨_, rfl⟩
       have hsz2 : W2.heap.size = W1.heap.size := by rw [← hW2]; exact size_setCell _ _ _
       rw [hW2] at hset hfr
       rw [hW2]
       clear hG HC0 HSB HO1 HR2 HC2 hW2 c0 v1 k0 k1 hfz hHeld
       obtain ⟨b', cap2', aj', cj', hc2, v0, v1, v2, v3, v4, v5, v6, v7, v8⟩ := hset.view (get_set_self HFK.out)
       have hlen2 : (s1.fs.set k ⟨f.nm, D, f.sf⟩).length = m := by rw [List.length_set, HM1.out]
       have hc2 : W2.heap[c]? = some (.cells #[.slice (some ⟨b', 0, none⟩) m cap2', .bool s1.dn, .int .i64 s1.ar, .int .i64 s1.wr] 45 (0, 0)) := by rw [← hlen2]; exact hc2
       have c0 := cell_of_row W2 c 0 _ _ _ hc2
       have hsf : f.sf ≤ 9223372036854775807 := by omega
       have HSET := Lib.hid hset
       have HFR := Lib.hid hfr
       have HC0 := Lib.hid c0
       have HSB := Lib.hid v8
       have HSZ2 := Lib.hid hsz2
       clear hset hfr hc2 v0 v1 v3 v5 v6 v7 v8 hlen2 hsz2
       refine wp_region_ht 17 (fun W => W.cell? ⟨c, 0, none⟩ = some (.slice (some ⟨b', 0, none⟩) m cap2') ∧ W.cell? ⟨b', k * 3 + 2, none⟩ = some (.int .i64 (f.sf : Nat))) (by kernel_rfl) (by kernel_rfl) ?_ (fun hHeld => ?_)
       · exact ⟨c0, v2⟩
       try simp only [Act.put, List.setIfInBounds_toArray, List.set_cons_zero, List.set_cons_succ]
       refine wpHT_takeD (i := 0) (d := 56) (v := ?_) (by kernel_rfl) rfl rfl (by decide) (by kernel_rfl) (by kernel_rfl) (fun _ _ _ h => h) (Or.inl ⟨by kernel_rfl, ?_⟩) (by assumption) ?_
       rotate_left
       · intro w hSw; (try dsimp only at hSw); go_simp; (try with_reducible rfl)
       try simp only [Act.put, List.setIfInBounds_toArray, List.set_cons_zero, List.set_cons_succ]
       refine wpHT_takeD (i := 1) (d := 57) (v := ?_) (by kernel_rfl) rfl rfl (by decide) (by kernel_rfl) (by kernel_rfl) (fun _ _ _ h => h) (Or.inl ⟨by kernel_rfl, ?_⟩) (by assumption) ?_
       rotate_left
       · intro w hSw; (try dsimp only at hSw); go_simp; (try with_reducible rfl)
       try simp only [Act.put, List.setIfInBounds_toArray, List.set_cons_zero, List.set_cons_succ]
       refine wpHT_takeD (i := 2) (d := 58) (v := ?_) (by kernel_rfl) rfl rfl (by decide) (by kernel_rfl) (by kernel_rfl) (fun _ _ _ h => h) (Or.inl ⟨by kernel_rfl, ?_⟩) (by assumption) ?_
       rotate_left
       · intro w hSw; (try dsimp only at hSw); go_simp; (try with_reducible rfl)
       try simp only [Act.put, List.setIfInBounds_toArray, List.set_cons_zero, List.set_cons_succ]
       refine wpHT_takeD (i := 3) (d := 59) (v := ?_) (by kernel_rfl) rfl rfl (by decide) (by kernel_rfl) (by kernel_rfl) (fun _ _ _ h => h) (Or.inl ⟨by kernel_rfl, ?_⟩) (by assumption) ?_
       rotate_left
       · intro w hSw; (try dsimp only at hSw); go_simp; (try with_reducible rfl)
       try simp only [Act.put, List.setIfInBounds_toArray, List.set_cons_zero, List.set_cons_succ]
       refine wpHT_takeD (i := 4) (d := 60) (v := ?_) (by kernel_rfl) rfl rfl (by decide) (by kernel_rfl) (by kernel_rfl) (fun _ _ _ h => h) (Or.inl ⟨by kernel_rfl, ?_⟩) (by assumption) ?_
       rotate_left
       · intro w hSw; (try dsimp only at hSw); go_simp; (try with_reducible rfl)
       try simp only [Act.put, List.setIfInBounds_toArray, List.set_cons_zero, List.set_cons_succ]
       refine wpHT_takeD (i := 5) (d := 61) (v := ?_) (by kernel_rfl) rfl rfl (by decide) (by kernel_rfl) (by kernel_rfl) (fun _ _ _ h => h) (Or.inl ⟨by kernel_rfl, ?_⟩) (by assumption) ?_
       rotate_left
       · intro w hSw; (try dsimp only at hSw); go_simp; (try with_reducible rfl)
       try simp only [Act.put, List.setIfInBounds_toArray, List.set_cons_zero, List.set_cons_succ]
       refine wpHT_takeD (i := 6) (d := 62) (v := ?_) (by kernel_rfl) rfl rfl (by decide) (by kernel_rfl) (by kernel_rfl) (fun _ _ _ h => h) (Or.inl ⟨by kernel_rfl, ?_⟩) (by assumption) ?_
       rotate_left
       · intro w hSw; (try dsimp only at hSw); go_simp; (try with_reducible rfl)
       try simp only [Act.put, List.setIfInBounds_toArray, List.set_cons_zero, List.set_cons_succ]
       refine wpHT_takeD (i := 7) (d := 63) (v := ?_) (by kernel_rfl) rfl rfl (by decide) (by kernel_rfl) (by kernel_rfl) (fun _ _ _ h => h) (Or.inl ⟨by kernel_rfl, ?_⟩) (by assumption) ?_
       rotate_left
       · intro w hSw; (try dsimp only at hSw); go_simp; (try with_reducible rfl)
       try simp only [Act.put, List.setIfInBounds_toArray, List.set_cons_zero, List.set_cons_succ]
       refine wpHT_takeD (i := 8) (d := 64) (v := ?_) (by kernel_rfl) rfl rfl (by decide) (by kernel_rfl) (by kernel_rfl) (fun _ _ _ h => h) (Or.inl ⟨by kernel_rfl, ?_⟩) (by assumption) ?_
       rotate_left
       · intro w hSw; (try dsimp only at hSw); go_simp; (try with_reducible rfl)
       try simp only [Act.put, List.setIfInBounds_toArray, List.set_cons_zero, List.set_cons_succ]
       refine wpHT_takeD (i := 9) (d := 65) (v := ?_) (by kernel_rfl) rfl rfl (by decide) (by kernel_rfl) (by kernel_rfl) (fun _ _ _ h => h) (Or.inl ⟨by kernel_rfl, ?_⟩) (by assumption) ?_
       rotate_left
       · intro w hSw; (try dsimp only at hSw); go_simp; (try with_reducible rfl)
       try simp only [Act.put, List.setIfInBounds_toArray, List.set_cons_zero, List.set_cons_succ]
       refine wpHT_takeD (i := 10) (d := 66) (v := ?_) (by kernel_rfl) rfl rfl (by decide) (by kernel_rfl) (by kernel_rfl) (fun _ _ _ h => h) (Or.inl ⟨by kernel_rfl, ?_⟩) (by assumption) ?_
       rotate_left
       · intro w hSw; (try dsimp only at hSw); go_simp; (try with_reducible rfl)
       try simp only [Act.put, List.setIfInBounds_toArray, List.set_cons_zero, List.set_cons_succ]
       refine wpHT_takeD (i := 11) (d := 67) (v := ?_) (by kernel_rfl) rfl rfl (by decide) (by kernel_rfl) (by kernel_rfl) (fun _ _ _ h => h) (Or.inl ⟨by kernel_rfl, ?_⟩) (by assumption) ?_
       rotate_left
       · intro w hSw; (try dsimp only at hSw); go_simp; (try with_reducible rfl)
       try simp only [Act.put, List.setIfInBounds_toArray, List.set_cons_zero, List.set_cons_succ]
       refine wpHT_takeD (i := 12) (d := 68) (v := ?_) (by kernel_rfl) rfl rfl (by decide) (by kernel_rfl) (by kernel_rfl) (fun _ _ _ h => h) (Or.inl ⟨by kernel_rfl, ?_⟩) (by assumption) ?_
       rotate_left
       · intro w hSw; (try dsimp only at hSw); go_simp; (try with_reducible rfl)
       try simp only [Act.put, List.setIfInBounds_toArray, List.set_cons_zero, List.set_cons_succ]
       refine wpHT_takeD (i := 13) (d := 69) (v := ?_) (by kernel_rfl) rfl rfl (by decide) (by kernel_rfl) (by kernel_rfl) (fun _ _ _ h => h) (Or.inl ⟨by kernel_rfl, ?_⟩) (by assumption) ?_
       rotate_left
       · intro w hSw; (try dsimp only at hSw); go_simp; (try with_reducible rfl)
       try simp only [Act.put, List.setIfInBounds_toArray, List.set_cons_zero, List.set_cons_succ]
       refine wpHT_takeD (i := 14) (d := 70) (v := ?_) (by kernel_rfl) rfl rfl (by decide) (by kernel_rfl) (by kernel_rfl) (fun _ _ _ h => h) (Or.inl ⟨by kernel_rfl, ?_⟩) (by assumption) ?_
       rotate_left
       · intro w hSw; (try dsimp only at hSw); go_simp; (try with_reducible rfl)
       try simp only [Act.put, List.setIfInBounds_toArray, List.set_cons_zero, List.set_cons_succ]
       refine wpHT_takeD (i := 15) (d := 71) (v := ?_) (by kernel_rfl) rfl rfl (by decide) (by kernel_rfl) (by kernel_rfl) (fun _ _ _ h => h) (Or.inl ⟨by kernel_rfl, ?_⟩) (by assumption) ?_
       rotate_left
       · intro w hSw; (try dsimp only at hSw); go_simp; (try with_reducible rfl)
       try simp only [Act.put, List.setIfInBounds_toArray, List.set_cons_zero, List.set_cons_succ]
       refine wpHT_takeD (i := 16) (d := 72) (v := ?_) (by kernel_rfl) rfl rfl (by decide) (by kernel_rfl) (by kernel_rfl) (fun _ _ _ h => h) (Or.inl ⟨by kernel_rfl, ?_⟩) (by assumption) ?_
       rotate_left
       · intro w hSw; (try dsimp only at hSw); go_simp; (try with_reducible rfl)
       try simp only [Act.put, List.setIfInBounds_toArray, List.set_cons_zero, List.set_cons_succ]
       refine wpHT_done (by kernel_rfl) ?_
       simp only [List.drop_succ_cons, List.drop_zero]
       go_wp2_with fail
       go_ret
       have hmin : ((min f.sf K : Nat) : Int) = min (f.sf : Int) (K : Int) := by omega
       have hset2 := (HSET.out.drew).setS (get_set_self HFK.out) HC0.out (min f.sf K)
       rw [hmin] at hset2
       have hfr2 : Fr S w (W2.drew.setCell ⟨b', k * 3 + 2, none⟩ (.int .i64 (min (f.sf : Int) (K : Int)))) := by
        have h1 := HFR.out.drew
        have h2 : Fr (Sx S w1 W1) W2.drew (W2.drew.setCell ⟨b', k * 3 + 2, none⟩ (.int .i64 (min (f.sf : Int) (K : Int)))) := (Fr.refl _ W2.drew).setCell (fun _ => HSB.out) _
        refine h1.trans' h2 (fun _ _ h => h) (fun q hq h => ?_)
        rcases h with h | h
        · exact h
        · have := HF1.out.size; omega
       refine RTold.at (by rw [hres.out]; rfl) hset2 (by rw [hres.out, List.set_set]) (fun q hq => ?_) hfr2 HS.out
       rcases hq with hq | hq
       · exact .inl hq
       · refine .inr ⟨Nat.le_trans HF1.out.size hq.1, ?_⟩
         show q < (W2.drew.setCell _ _).heap.size
         have := HSZ2.out
         have e : (W2.drew.setCell ⟨b', k * 3 + 2, none⟩ (.int .i64 (min (f.sf : Int) (K : Int)))).heap.size = W2.heap.size := size_setCell W2.drew _ _
         rw [e, this]; exact hq.2
  · rw [hat] at HAT
    have hres : Hid (cutS s n N = (s, 8)) := by
     have : cutE s n N = 8 := by unfold cutE; rw [hg]
     unfold cutS; rw [this]; exact errW_err hdn (by decide)
    clear hr hdn h hg hat
    go_enter Tryz.func67, Tryz.ntmps67
    go_wp2_with (go_at_call 24; ((with_reducible refine (HAT.out).mono ?_); rintro e w1 ⟨rfl, rfl⟩))
    go_ret
    exact RTold.same (by rw [hres.out]; rfl) HRF.out (by rw [hres.out]) (Fr.refl _ _) HS.out
end Go.Proofs.YtjjcilinghgphaaGreat

/-! ### The reference's disk: Rename. -/
namespace Go.Proofs.YtjjcilinghgphaaGreat
open Go.RowKit Go.Maps Go.Sort
set_option maxRecDepth 100000
attribute [local go_sem] bs_size bs_toList

end Go.Proofs.YtjjcilinghgphaaGreat

/-! ### The reference's disk: Crash. -/
namespace Go.Proofs.YtjjcilinghgphaaGreat
open Go.RowKit Go.Maps Go.Sort
set_option maxRecDepth 100000
attribute [local go_sem] bs_size bs_toList

/-- Is a pick above 0? -/
def posB (p : List Int) (i : Nat) : Bool := match p[i]? with
 | some x => decide (0 < x)
 | none => false
theorem keepN_pos' {picks : List Int} {i : Nat} {p : Int} (h : picks[i]? = some p) (hp : 0 < p) {dl sf : Nat} (hs : sf ≤ dl) : ((keepN picks i (dl - sf) : Nat) : Int) = p % ((dl : Int) - (sf : Int) + 1) := keepN_pos h (by omega) hs
theorem keepN_not' {picks : List Int} {i : Nat} (h : posB picks i = false) (lo : Nat) : keepN picks i lo = 0 := by
 unfold posB at h
 unfold keepN
 cases hp : picks[i]? with
 | none => rfl
 | some p =>
  rw [hp] at h
  simp at h
  simp only []
  by_cases h0 : 0 ≤ p
  · obtain rfl : p = 0 := by omega
    simp
  · rw [if_neg h0]
theorem posB_some {picks : List Int} {i : Nat} (h : posB picks i = true) : ∃ p, picks[i]? = some p ∧ 0 < p := by
 unfold posB at h
 cases hp : picks[i]? with
 | none => rw [hp] at h; cases h
 | some p => rw [hp] at h; exact ⟨p, rfl, by simpa using h⟩
theorem CrashAt.nextR {picks : List Int} {l cur : List Fl} {k i : Nat} (h : CrashAt picks l cur k i) (hk : k < l.length) :
 ∃ f, cur[k]? = some f ∧ (f.dt.length = f.sf → CrashAt picks l cur (k + 1) i) ∧
  (f.dt.length ≠ f.sf → ∀ x, x = f.sf + keepN picks i (f.dt.length - f.sf) → CrashAt picks l (cur.set k ⟨f.nm, f.dt.take x, x⟩) (k + 1) (i + 1)) := by
 obtain ⟨pre, r, rfl, hp, hc, hn⟩ := h
 have hlen := congrArg List.length hn
 simp at hlen
 cases r with
 | nil => simp at hlen; omega
 | cons f r =>
  refine ⟨f, by rw [List.getElem?_append_right (by omega)]; simp [hp], fun e => ?_, fun e x hx => ?_⟩
  · refine ⟨pre ++ [f], r, by simp, by simp [hp], ?_, hn⟩
    rw [hc, crashL_cons, if_pos e]
    simp
  · subst hx
    have hset : (pre ++ f :: r).set k ⟨f.nm, f.dt.take (f.sf + keepN picks i (f.dt.length - f.sf)), f.sf + keepN picks i (f.dt.length - f.sf)⟩ = pre ++ ⟨f.nm, f.dt.take (f.sf + keepN picks i (f.dt.length - f.sf)), f.sf + keepN picks i (f.dt.length - f.sf)⟩ :: r := by
     rw [List.set_append, if_neg (by omega), show k - pre.length = 0 by omega]; rfl
    rw [hset]
    refine ⟨pre ++ [⟨f.nm, f.dt.take (f.sf + keepN picks i (f.dt.length - f.sf)), f.sf + keepN picks i (f.dt.length - f.sf)⟩], r, by simp, by simp [hp], ?_, by rw [← hn]; simp⟩
    rw [hc, crashL_cons, if_neg e]
    simp
/-- The reference's disk within Crash. -/
structure RfC (w wr : World) (c : Nat) (S S' : Nat → Prop) (s : DS) (cur : List Fl) : Prop where
 rf : Rf wr c S' { s with fs := cur }
 sub : ∀ q, S q → S' q
 inx : ∀ q, S' q → Sx S w wr q
 fr : Fr S w wr
theorem RfC.start {w : World} {c : Nat} {S : Nat → Prop} {s : DS} (h : Rf w c S s) : RfC w w c S S s s.fs := ⟨h, fun _ h => h, fun _ h => .inl h, Fr.refl _ _⟩
theorem RfC.new {w wr w' : World} {c : Nat} {S S' : Nat → Prop} {s : DS} {cur : List Fl} (h : RfC w wr c S S' s cur) (hb : Below wr.heap.size wr w') : RfC w w' c S S' s cur :=
 ⟨h.rf.below hb, h.sub, fun q hq => (h.inx q hq).elim .inl fun h => .inr ⟨h.1, Nat.lt_of_lt_of_le h.2 hb.size⟩, h.fr.trans (Fr.of_new hb)⟩
/-- What a file's sizes are. -/
def Siz (cur : List Fl) : Prop := ∀ g ∈ cur, g.sf ≤ g.dt.length ∧ g.dt.length ≤ 4194304
theorem Siz.set {cur : List Fl} (h : Siz cur) (k : Nat) {g : Fl} (hg : g.sf ≤ g.dt.length ∧ g.dt.length ≤ 4194304) : Siz (cur.set k g) := fun x hx => by
 rcases List.mem_or_eq_of_mem_set hx with hx | rfl
 · exact h x hx
 · exact hg
set_option maxHeartbeats 8000000 in
theorem rcrash_any (c : Nat) (S : Nat → Prop) (B : Int) (s : DS) (ap : Option Addr) (np cp : Nat) (picks : List Int) (hok : DOk B s) (w : World) (h : Rf w c S s) (hp : RdI w ap np cp picks) (hpn : BlkIn ap np fun b => ¬ S b) :
 Calls Tryz.prog 38 #[.pointer (some ⟨c, 0, none⟩), .slice ap np cp] w fun e w' => e = .returned (.tuple #[]) ∧ Rf w' c (Sx S w w') (crashS s picks) ∧ Fr S w w' := by
 have H0 := Lib.hid (RfC.start h)
 have HIN := Lib.hid h.in
 have HLT := Lib.hid h.lt
 have HP := Lib.hid hp
 have HPN := Lib.hid hpn
 have hl64 := hok.len
 have hnp : np ≤ 9223372036854775807 := Nat.le_trans hp.2.1.1 hp.2.1.2.1
 have HSI : Hid (Siz s.fs) := fun g hg => ⟨(hok.each g hg).2.2, Nat.le_trans (dt_le_tot hg) hok.tot⟩
 clear h hp hpn hok
 obtain ⟨m, hm⟩ : ∃ m, s.fs.length = m := ⟨_, rfl⟩
 have HM := Lib.hid hm
 rw [hm] at hl64
 clear hm
 go_enter Tryz.func38, Tryz.ntmps38
 go_wp2_with fail
 go_loopw [4, 5, 6, 7, 8] (fun i k _ _ _ wr => ∃ (J I : Nat) (cur : List Fl) (S' : Nat → Prop), J ≤ m ∧ I ≤ J ∧ k = .int .i64 (J : Nat) ∧ i = .int .i64 (I : Nat) ∧ Hid (CrashAt picks s.fs cur J I) ∧ Hid (RfC w wr c S S' s cur) ∧ Hid (Siz cur) ∧ Hid (cur.length = m)) (fun _ k _ _ _ _ => m - (intOf k).toNat)
 case atStart => exact ⟨0, 0, s.fs, S, Nat.zero_le _, Nat.le_refl _, rfl, rfl, CrashAt.start _ _, H0.out, HSI.out, HM.out⟩
 case round =>
  obtain ⟨J, I, cur, S', hK, hI, rfl, rfl, HC, HR, HSC, HLC⟩ := hrel
  by_cases hlt : J < m
  · obtain ⟨f, hf, hsame, hnext⟩ := HC.out.nextR (by rw [HM.out]; exact hlt)
    obtain ⟨b, cap1, aj, cj, hc1, v0, v1, v2, v3, v4, v5, v6, v7, v8⟩ := HR.out.rf.view hf
    have hc1 : wr.heap[c]? = some (.cells #[.slice (some ⟨b, 0, none⟩) m cap1, .bool s.dn, .int .i64 s.ar, .int .i64 s.wr] 45 (0, 0)) := by rw [← HLC.out]; exact hc1
    have c0 := cell_of_row wr c 0 _ _ _ hc1
    obtain ⟨hsf, hdl⟩ := HSC.out f (List.mem_of_getElem? hf)
    obtain ⟨W, hW, hbw, hsz, g0, g1, g2⟩ := fileAt wr f (.slice aj f.dt.length cj)
    have hW' : wr.alloc (.cells #[.string (bs f.nm), .slice aj f.dt.length cj, .int .i64 (f.sf : Nat)] 26) = W := hW.symm
    have HFK := Lib.hid hf
    have HSAME := Lib.hid hsame
    have HNEXT := Lib.hid hnext
    have HRW := Lib.hid (HR.out.new hbw)
    have HBW := Lib.hid hbw
    have H8 := Lib.hid (v5.below hbw)
    have HV3 : Hid (W.frozen? ⟨b, J * 3 + 1, none⟩ = false) := ((Fr.of_new (S := fun _ => False) hbw).frozen (p := ⟨b, J * 3 + 1, none⟩) (HR.out.rf.lt b v8) (fun h => h)).trans v3
    have HPR := Lib.hid (HP.out.keep HRW.out.fr HPN.out)
    have HBB : Hid (b < W.heap.size) := Nat.lt_of_lt_of_le (HR.out.rf.lt b v8) hbw.size
    have HSB := Lib.hid v8
    have HBR : Hid (b < wr.heap.size) := HR.out.rf.lt b v8
    have HSZW := Lib.hid hsz
    have C0 := Lib.hid (cell_below c0 hbw)
    have V1 := Lib.hid (cell_below v1 hbw)
    clear hf hsame hnext hc1 v3 v4 v5 v6 v7 v8 hW hbw hsz HC HR
    go_upto_region 5 with fail
    clear c0 v0 v1 v2 hW'
    by_cases hlo : f.dt.length = f.sf
    · have e1 : ((f.dt.length : Int) - (f.sf : Int) == 0) = true := by simp; omega
      have HLO := Lib.hid hlo
      clear hlo
      go_wp2_with fail
      go_roundw
      case rel => exact ⟨J + 1, I, cur, S', by omega, by omega, by go_num, rfl, HSAME.out HLO.out, HRW.out, HSC.out, HLC.out⟩
      case measure => simp [intOf]; omega
    · have e1 : ((f.dt.length : Int) - (f.sf : Int) == 0) = false := by simp; omega
      have HLO := Lib.hid hlo
      clear hlo
      go_upto_region 8 with fail
      clear e1
      go_cut [43] (fun c43 wx => c43 = .bool (posB picks I) ∧ W = wx)
      case first =>
       have hpl := HPR.out.1
       by_cases hi : I < np
       · obtain ⟨bp, off, hab, hbb, hcell⟩ := HPR.out.2.1.at (by omega)
         subst hab
         obtain ⟨p, hpi⟩ : ∃ p, picks[I]? = some p := ⟨_, List.getElem?_eq_getElem (by omega)⟩
         have gp := hcell I (.int .i64 p) (by rw [List.getElem?_map, hpi]; rfl)
         have HT : Hid (posB picks I = decide (0 < p)) := by show _ = _; unfold posB; rw [hpi]
         clear hcell hpi hpl
         by_cases hp0 : 0 < p
         case' pos => have dp : decide (0 < p) = true := by simpa using hp0
         case' neg => have dp : decide (0 < p) = false := by simpa using hp0
         all_goals
          go_wp2_with fail
          go_meet
          exact ⟨by rw [HT.out, dp], rfl⟩
       · have HT : Hid (posB picks I = false) := by show _ = _; unfold posB; rw [List.getElem?_eq_none (by omega)]
         clear hpl
         go_wp2_with fail
         go_meet
         exact ⟨by rw [HT.out], rfl⟩
      case rest =>
       obtain ⟨rfl, rfl⟩ := hcut
       go_upto_if 43 with fail
       go_cut [8] (fun k8 wx => k8 = .int .i64 ((keepN picks I (f.dt.length - f.sf) : Nat) : Int) ∧ W = wx)
       case first =>
        cases htb : posB picks I with
        | true =>
         obtain ⟨p, hpi, hp0⟩ := posB_some htb
         have hpl := HPR.out.1
         have hil : I < picks.length := (List.getElem?_eq_some_iff.1 hpi).1
         obtain ⟨bp, off, hab, hbb, hcell⟩ := HPR.out.2.1.at (by omega)
         subst hab
         have gp := hcell I (.int .i64 p) (by rw [List.getElem?_map, hpi]; rfl)
         have hpw := HPR.out.2.2 p (List.mem_of_getElem? hpi)
         have HKP := Lib.hid (keepN_pos' hpi hp0 hsf)
         have o2 : IntKind.i64.wrap ((f.dt.length : Int) - (f.sf : Int) + 1) = (f.dt.length : Int) - (f.sf : Int) + 1 := IntWalk.i64_in _ (by omega)
         have o3 : (0 : Int) < (f.dt.length : Int) - (f.sf : Int) + 1 := by omega
         have hin : I < np := by omega
         clear hcell hpi hil hpl htb
         go_wp2_with fail
         go_meet
         exact ⟨by rw [HKP.out], rfl⟩
        | false =>
         have HKN := Lib.hid (keepN_not' htb (f.dt.length - f.sf))
         clear htb
         go_wp2_with fail
         go_meet
         exact ⟨by rw [HKN.out]; rfl, rfl⟩
       case rest =>
        obtain ⟨rfl, rfl⟩ := hcut
        have hkl := keepN_le picks I (f.dt.length - f.sf)
        obtain ⟨kk, hkk⟩ : ∃ kk, keepN picks I (f.dt.length - f.sf) = kk := ⟨_, rfl⟩
        rw [hkk] at hkl ⊢
        have HKK := Lib.hid hkk
        clear hkk
        obtain ⟨D, hD⟩ : ∃ D, f.dt.take (f.sf + kk) = D := ⟨_, rfl⟩
        have hDl : D.length = f.sf + kk := by rw [← hD, List.length_take]; omega
        obtain ⟨ad, cd, hrun0, hrd⟩ := run_slice8 (P := Tryz.prog) S5 H8.out none (some (.int .i64 ((f.sf + kk : Nat) : Int))) 0 (f.sf + kk) (.inl ⟨rfl, rfl⟩) (.inr rfl) (Nat.zero_le _) (by omega)
        rw [Nat.sub_zero] at hrun0 hrd
        rw [List.drop_zero, hD] at hrd
        have e1 : ((f.sf + kk : Nat) : Int) = (f.sf : Int) + (kk : Int) := by omega
        rw [e1] at hrun0
        have o4 : IntKind.i64.wrap ((f.sf : Int) + (kk : Int)) = (f.sf : Int) + (kk : Int) := IntWalk.i64_in _ (by omega)
        have HDD := Lib.hid hD
        have HDL := Lib.hid hDl
        have HE1 := Lib.hid e1
        have HRD := Lib.hid hrd
        have c0 := C0.out
        have v1 := V1.out
        clear hD hDl hrd e1
        go_wp2_with fail
        refine wp_region_ht 15 (fun W => W.cell? ⟨c, 0, none⟩ = some (.slice (some ⟨b, 0, none⟩) m cap1) ∧ W.cell? ⟨wr.heap.size, 1, none⟩ = some (.slice aj f.dt.length cj) ∧ W.cell? ⟨wr.heap.size, 2, none⟩ = some (.int .i64 (f.sf : Nat))) (by kernel_rfl) (by kernel_rfl) ?_ (fun hHeld => ?_)
        · exact ⟨c0, g1, g2⟩
        try simp only [Act.put, List.setIfInBounds_toArray, List.set_cons_zero, List.set_cons_succ]
        refine wpHT_takeD (i := 0) (d := 51) (v := ?_) (by kernel_rfl) rfl rfl (by decide) (by kernel_rfl) (by kernel_rfl) (fun _ _ _ h => h) (Or.inl ⟨by kernel_rfl, ?_⟩) (by assumption) ?_
        rotate_left
        · intro w hSw; (try dsimp only at hSw); go_simp; (try with_reducible rfl)
        try simp only [Act.put, List.setIfInBounds_toArray, List.set_cons_zero, List.set_cons_succ]
        refine wpHT_takeD (i := 1) (d := 52) (v := ?_) (by kernel_rfl) rfl rfl (by decide) (by kernel_rfl) (by kernel_rfl) (fun _ _ _ h => h) (Or.inl ⟨by kernel_rfl, ?_⟩) (by assumption) ?_
        rotate_left
        · intro w hSw; (try dsimp only at hSw); go_simp; (try with_reducible rfl)
        try simp only [Act.put, List.setIfInBounds_toArray, List.set_cons_zero, List.set_cons_succ]
        refine wpHT_takeD (i := 2) (d := 53) (v := ?_) (by kernel_rfl) rfl rfl (by decide) (by kernel_rfl) (by kernel_rfl) (fun _ _ _ h => h) (Or.inl ⟨by kernel_rfl, ?_⟩) (by assumption) ?_
        rotate_left
        · intro w hSw; (try dsimp only at hSw); go_simp; (try with_reducible rfl)
        try simp only [Act.put, List.setIfInBounds_toArray, List.set_cons_zero, List.set_cons_succ]
        refine wpHT_takeD (i := 3) (d := 54) (v := ?_) (by kernel_rfl) rfl rfl (by decide) (by kernel_rfl) (by kernel_rfl) (fun _ _ _ h => h) (Or.inl ⟨by kernel_rfl, ?_⟩) (by assumption) ?_
        rotate_left
        · intro w hSw; (try dsimp only at hSw); go_simp; (try with_reducible rfl)
        try simp only [Act.put, List.setIfInBounds_toArray, List.set_cons_zero, List.set_cons_succ]
        refine wpHT_takeD (i := 4) (d := 55) (v := ?_) (by kernel_rfl) rfl rfl (by decide) (by kernel_rfl) (by kernel_rfl) (fun _ _ _ h => h) (Or.inl ⟨by kernel_rfl, ?_⟩) (by assumption) ?_
        rotate_left
        · intro w hSw; (try dsimp only at hSw); go_simp; (try with_reducible rfl)
        try simp only [Act.put, List.setIfInBounds_toArray, List.set_cons_zero, List.set_cons_succ]
        refine wpHT_takeD (i := 5) (d := 56) (v := ?_) (by kernel_rfl) rfl rfl (by decide) (by kernel_rfl) (by kernel_rfl) (fun _ _ _ h => h) (Or.inl ⟨by kernel_rfl, ?_⟩) (by assumption) ?_
        rotate_left
        · intro w hSw; (try dsimp only at hSw); go_simp; (try with_reducible rfl)
        try simp only [Act.put, List.setIfInBounds_toArray, List.set_cons_zero, List.set_cons_succ]
        refine wpHT_takeD (i := 6) (d := 57) (v := ?_) (by kernel_rfl) rfl rfl (by decide) (by kernel_rfl) (by kernel_rfl) (fun _ _ _ h => h) (Or.inl ⟨by kernel_rfl, ?_⟩) (by assumption) ?_
        rotate_left
        · intro w hSw; (try dsimp only at hSw); go_simp; (try with_reducible rfl)
        try simp only [Act.put, List.setIfInBounds_toArray, List.set_cons_zero, List.set_cons_succ]
        refine wpHT_takeD (i := 7) (d := 58) (v := ?_) (by kernel_rfl) rfl rfl (by decide) (by kernel_rfl) (by kernel_rfl) (fun _ _ _ h => h) (Or.inl ⟨by kernel_rfl, ?_⟩) (by assumption) ?_
        rotate_left
        · intro w hSw; (try dsimp only at hSw); go_simp; (try with_reducible rfl)
        try simp only [Act.put, List.setIfInBounds_toArray, List.set_cons_zero, List.set_cons_succ]
        refine wpHT_takeD (i := 8) (d := 59) (v := ?_) (by kernel_rfl) rfl rfl (by decide) (by kernel_rfl) (by kernel_rfl) (fun _ _ _ h => h) (Or.inl ⟨by kernel_rfl, ?_⟩) (by assumption) ?_
        rotate_left
        · intro w hSw; (try dsimp only at hSw); go_simp; (try with_reducible rfl)
        try simp only [Act.put, List.setIfInBounds_toArray, List.set_cons_zero, List.set_cons_succ]
        refine wpHT_takeD (i := 9) (d := 60) (v := ?_) (by kernel_rfl) rfl rfl (by decide) (by kernel_rfl) (by kernel_rfl) (fun _ _ _ h => h) (Or.inl ⟨by kernel_rfl, ?_⟩) (by assumption) ?_
        rotate_left
        · intro w hSw; (try dsimp only at hSw); go_simp; (try with_reducible rfl)
        try simp only [Act.put, List.setIfInBounds_toArray, List.set_cons_zero, List.set_cons_succ]
        refine wpHT_takeD (i := 10) (d := 61) (v := ?_) (by kernel_rfl) rfl rfl (by decide) (by kernel_rfl) (by kernel_rfl) (fun _ _ _ h => h) (Or.inl ⟨by kernel_rfl, ?_⟩) (by assumption) ?_
        rotate_left
        · intro w hSw; (try dsimp only at hSw); go_simp; (try with_reducible rfl)
        try simp only [Act.put, List.setIfInBounds_toArray, List.set_cons_zero, List.set_cons_succ]
        refine wpHT_takeD (i := 11) (d := 62) (v := ?_) (by kernel_rfl) rfl rfl (by decide) (by kernel_rfl) (by kernel_rfl) (fun _ _ _ h => h) (Or.inl ⟨by kernel_rfl, ?_⟩) (by assumption) ?_
        rotate_left
        · intro w hSw; (try dsimp only at hSw); go_simp; (try with_reducible rfl)
        try simp only [Act.put, List.setIfInBounds_toArray, List.set_cons_zero, List.set_cons_succ]
        refine wpHT_one (i := 12) (by kernel_rfl) rfl (by decide) (fun K hK => ?_)
        go_simp
        go_at_call 26
        refine (copyBytes_any _ _ _ D _ (HRD.out.below ((Below.refl _ W).drew)) (by omega)).mono ?_
        rintro e W1 ⟨v39, rfl, ho, hb⟩
        have hb1 : Below W.heap.size W W1 := ((Below.refl _ W).drew).trans hb
        have ho1 : Own8 W1 W.heap.size 5 v39 D := ho
        have HO1 := Lib.hid ho1
        have HB1 := Lib.hid hb1
        have hfz : W1.frozen? ⟨b, J * 3 + 1, none⟩ = false := ((Fr.of_new (S := fun _ => False) hb1).frozen (p := ⟨b, J * 3 + 1, none⟩) HBB.out (fun h => h)).trans HV3.out
        have HC2 := Lib.hid (cell_below c0 hb1)
        have k0 := cell_below c0 hb1
        have k1 := cell_below g1 hb1
        have k2 := cell_below g2 hb1
        have k3 := cell_below v1 hb1
        obtain ⟨a2, cap2, rfl, hr2⟩ := ho1.rd
        have HR2 := Lib.hid hr2
        clear ho hb ho1 hb1 hr2
        refine hK.out _ _ ?_ (fun hHeld => ?_)
        · exact ⟨k0, k1, k2⟩
        clear hK K
        try simp only [Act.put, List.setIfInBounds_toArray, List.set_cons_zero, List.set_cons_succ]
        refine wpHT_takeD (i := 13) (d := 64) (v := ?_) (by kernel_rfl) rfl rfl (by decide) (by kernel_rfl) (by kernel_rfl) (fun _ _ _ h => h) (Or.inl ⟨by kernel_rfl, ?_⟩) (by assumption) ?_
        rotate_left
        · intro w hSw; (try dsimp only at hSw); go_simp; (try with_reducible rfl)
        try simp only [Act.put, List.setIfInBounds_toArray, List.set_cons_zero, List.set_cons_succ]
        refine wpHT_takeD (i := 14) (d := 65) (v := ?_) (by kernel_rfl) rfl rfl (by decide) (by kernel_rfl) (by kernel_rfl) (fun _ _ _ h => h) (Or.inl ⟨by kernel_rfl, ?_⟩) (by assumption) ?_
        rotate_left
        · intro w hSw; (try dsimp only at hSw); go_simp; (try with_reducible rfl)
        try simp only [Act.put, List.setIfInBounds_toArray, List.set_cons_zero, List.set_cons_succ]
        refine wpHT_done (by kernel_rfl) ?_
        simp only [List.drop_succ_cons, List.drop_zero]
        go_wp2_with fail
        have hG : Rf W1 c (Sx S' W W1) { s with fs := cur } := (HRW.out.rf.below HB1.out).grow (fun q hq => .inl hq) (fun q hq => hq.elim (fun h => Nat.lt_of_lt_of_le (HRW.out.rf.lt q h) HB1.out.size) (fun h => h.2))
        have hset := hG.setD HFK.out HC2.out HR2.out (fun _ q hq => by
         have h1 := World.ownsRow.lt HO1.out q (by rw [ownBlock_sl]; exact hq)
         have h2 := HRW.out.rf.lt c (HRW.out.sub c HIN.out)
         have h3 := HBB.out
         exact ⟨.inr h1, by omega, by omega⟩)
        have hSb : ∀ q, S' q → q < w.heap.size → S q := fun q hq h0 => (HRW.out.inx q hq).elim id (fun h => by omega)
        have hfr : Fr S w (W1.setCell ⟨b, J * 3 + 1, none⟩ (.slice a2 D.length cap2)) := (HRW.out.fr.trans (Fr.of_new (S := S) HB1.out)).setCell (fun h0 => hSb b HSB.out h0) _
        have hfb : Fr (fun q => q = b) W1 (W1.setCell ⟨b, J * 3 + 1, none⟩ (.slice a2 D.length cap2)) := (Fr.refl (fun q => q = b) W1).setCell (fun _ => rfl) _
        obtain ⟨W2, hW2⟩ : ∃ W2, W1.setCell ⟨b, J * 3 + 1, none⟩ (.slice a2 D.length cap2) = W2 := ⟨_, rfl⟩
        have hsz2 : W2.heap.size = W1.heap.size := by rw [← hW2]; exact size_setCell _ _ _
        rw [hW2] at hset hfr hfb
        rw [hW2]
        have k2' : W2.cell? ⟨wr.heap.size, 2, none⟩ = some (.int .i64 (f.sf : Nat)) := (hfb.cell (p := ⟨wr.heap.size, 2, none⟩) (World.block_lt_of_cell? _ _ k2) (fun e => by have h1 := HBR.out; have e' : wr.heap.size = b := e; omega)).trans k2
        clear hG HO1 HR2 HC2 hW2 c0 v1 k0 k1 k3 hfz hHeld k2 g0 g1 g2 hfb hrun0
        obtain ⟨b', cap2', aj', cj', hc2, v0, v1, v2, v3, v4, v5, v6, v7, v8⟩ := hset.view (get_set_self HFK.out)
        have hlen2 : (cur.set J ⟨f.nm, D, f.sf⟩).length = m := by rw [List.length_set, HLC.out]
        have hc2 : W2.heap[c]? = some (.cells #[.slice (some ⟨b', 0, none⟩) m cap2', .bool s.dn, .int .i64 s.ar, .int .i64 s.wr] 45 (0, 0)) := by rw [← hlen2]; exact hc2
        have c0 := cell_of_row W2 c 0 _ _ _ hc2
        have HSET := Lib.hid hset
        have HFR := Lib.hid hfr
        have HC0 := Lib.hid c0
        have HSB2 := Lib.hid v8
        have HSZ2 := Lib.hid hsz2
        have HSBS := Lib.hid hSb
        clear hset hfr hc2 v0 v1 v3 v5 v6 v7 v8 hlen2 hsz2 hSb
        refine wp_region_ht 11 (fun W => W.cell? ⟨c, 0, none⟩ = some (.slice (some ⟨b', 0, none⟩) m cap2') ∧ W.cell? ⟨wr.heap.size, 2, none⟩ = some (.int .i64 (f.sf : Nat))) (by kernel_rfl) (by kernel_rfl) ?_ (fun hHeld => ?_)
        · exact ⟨c0, k2'⟩
        try simp only [Act.put, List.setIfInBounds_toArray, List.set_cons_zero, List.set_cons_succ]
        refine wpHT_takeD (i := 0) (d := 66) (v := ?_) (by kernel_rfl) rfl rfl (by decide) (by kernel_rfl) (by kernel_rfl) (fun _ _ _ h => h) (Or.inl ⟨by kernel_rfl, ?_⟩) (by assumption) ?_
        rotate_left
        · intro w hSw; (try dsimp only at hSw); go_simp; (try with_reducible rfl)
        try simp only [Act.put, List.setIfInBounds_toArray, List.set_cons_zero, List.set_cons_succ]
        refine wpHT_takeD (i := 1) (d := 67) (v := ?_) (by kernel_rfl) rfl rfl (by decide) (by kernel_rfl) (by kernel_rfl) (fun _ _ _ h => h) (Or.inl ⟨by kernel_rfl, ?_⟩) (by assumption) ?_
        rotate_left
        · intro w hSw; (try dsimp only at hSw); go_simp; (try with_reducible rfl)
        try simp only [Act.put, List.setIfInBounds_toArray, List.set_cons_zero, List.set_cons_succ]
        refine wpHT_takeD (i := 2) (d := 68) (v := ?_) (by kernel_rfl) rfl rfl (by decide) (by kernel_rfl) (by kernel_rfl) (fun _ _ _ h => h) (Or.inl ⟨by kernel_rfl, ?_⟩) (by assumption) ?_
        rotate_left
        · intro w hSw; (try dsimp only at hSw); go_simp; (try with_reducible rfl)
        try simp only [Act.put, List.setIfInBounds_toArray, List.set_cons_zero, List.set_cons_succ]
        refine wpHT_takeD (i := 3) (d := 69) (v := ?_) (by kernel_rfl) rfl rfl (by decide) (by kernel_rfl) (by kernel_rfl) (fun _ _ _ h => h) (Or.inl ⟨by kernel_rfl, ?_⟩) (by assumption) ?_
        rotate_left
        · intro w hSw; (try dsimp only at hSw); go_simp; (try with_reducible rfl)
        try simp only [Act.put, List.setIfInBounds_toArray, List.set_cons_zero, List.set_cons_succ]
        refine wpHT_takeD (i := 4) (d := 70) (v := ?_) (by kernel_rfl) rfl rfl (by decide) (by kernel_rfl) (by kernel_rfl) (fun _ _ _ h => h) (Or.inl ⟨by kernel_rfl, ?_⟩) (by assumption) ?_
        rotate_left
        · intro w hSw; (try dsimp only at hSw); go_simp; (try with_reducible rfl)
        try simp only [Act.put, List.setIfInBounds_toArray, List.set_cons_zero, List.set_cons_succ]
        refine wpHT_takeD (i := 5) (d := 71) (v := ?_) (by kernel_rfl) rfl rfl (by decide) (by kernel_rfl) (by kernel_rfl) (fun _ _ _ h => h) (Or.inl ⟨by kernel_rfl, ?_⟩) (by assumption) ?_
        rotate_left
        · intro w hSw; (try dsimp only at hSw); go_simp; (try with_reducible rfl)
        try simp only [Act.put, List.setIfInBounds_toArray, List.set_cons_zero, List.set_cons_succ]
        refine wpHT_takeD (i := 6) (d := 72) (v := ?_) (by kernel_rfl) rfl rfl (by decide) (by kernel_rfl) (by kernel_rfl) (fun _ _ _ h => h) (Or.inl ⟨by kernel_rfl, ?_⟩) (by assumption) ?_
        rotate_left
        · intro w hSw; (try dsimp only at hSw); go_simp; (try with_reducible rfl)
        try simp only [Act.put, List.setIfInBounds_toArray, List.set_cons_zero, List.set_cons_succ]
        refine wpHT_takeD (i := 7) (d := 73) (v := ?_) (by kernel_rfl) rfl rfl (by decide) (by kernel_rfl) (by kernel_rfl) (fun _ _ _ h => h) (Or.inl ⟨by kernel_rfl, ?_⟩) (by assumption) ?_
        rotate_left
        · intro w hSw; (try dsimp only at hSw); go_simp; (try with_reducible rfl)
        try simp only [Act.put, List.setIfInBounds_toArray, List.set_cons_zero, List.set_cons_succ]
        refine wpHT_takeD (i := 8) (d := 74) (v := ?_) (by kernel_rfl) rfl rfl (by decide) (by kernel_rfl) (by kernel_rfl) (fun _ _ _ h => h) (Or.inl ⟨by kernel_rfl, ?_⟩) (by assumption) ?_
        rotate_left
        · intro w hSw; (try dsimp only at hSw); go_simp; (try with_reducible rfl)
        try simp only [Act.put, List.setIfInBounds_toArray, List.set_cons_zero, List.set_cons_succ]
        refine wpHT_takeD (i := 9) (d := 75) (v := ?_) (by kernel_rfl) rfl rfl (by decide) (by kernel_rfl) (by kernel_rfl) (fun _ _ _ h => h) (Or.inl ⟨by kernel_rfl, ?_⟩) (by assumption) ?_
        rotate_left
        · intro w hSw; (try dsimp only at hSw); go_simp; (try with_reducible rfl)
        try simp only [Act.put, List.setIfInBounds_toArray, List.set_cons_zero, List.set_cons_succ]
        refine wpHT_takeD (i := 10) (d := 76) (v := ?_) (by kernel_rfl) rfl rfl (by decide) (by kernel_rfl) (by kernel_rfl) (fun _ _ _ h => h) (Or.inl ⟨by kernel_rfl, ?_⟩) (by assumption) ?_
        rotate_left
        · intro w hSw; (try dsimp only at hSw); go_simp; (try with_reducible rfl)
        try simp only [Act.put, List.setIfInBounds_toArray, List.set_cons_zero, List.set_cons_succ]
        refine wpHT_done (by kernel_rfl) ?_
        simp only [List.drop_succ_cons, List.drop_zero]
        go_wp2_with fail
        go_roundw
        case rel =>
         have hs2 := HSET.out.setS (get_set_self HFK.out) HC0.out (f.sf + kk)
         rw [HE1.out] at hs2
         have hSb2 : ∀ q, Sx S' W W1 q → q < w.heap.size → S q := fun q hq h0 => hq.elim (fun h => HSBS.out q h h0) (fun h => by have h1 := HRW.out.fr.size; omega)
         have hfr2 : Fr S w (W2.setCell ⟨b', J * 3 + 2, none⟩ (.int .i64 ((f.sf : Int) + (kk : Int)))) := HFR.out.setCell (fun h0 => hSb2 b' HSB2.out h0) _
         refine ⟨J + 1, I + 1, cur.set J ⟨f.nm, D, f.sf + kk⟩, Sx S' W W1, by omega, by omega, by go_num, by go_num, ?_, ⟨?_, ?_, ?_, hfr2.drew⟩, ?_, ?_⟩
         · have := HNEXT.out HLO.out (f.sf + kk) (by rw [HKK.out])
           rw [HDD.out] at this; exact this
         · have h3 := hs2.drew
           rw [List.set_set] at h3; exact h3
         · exact fun q hq => .inl (HRW.out.sub q hq)
         · intro q hq
           have h1 := HRW.out.fr.size
           have h2 := HB1.out.size
           have h3 : ((W2.setCell ⟨b', J * 3 + 2, none⟩ (.int .i64 ((f.sf : Int) + (kk : Int)))).drew).heap.size = W1.heap.size := (size_setCell W2 _ _).trans HSZ2.out
           rcases hq with hq | hq
           · rcases HRW.out.inx q hq with hq | hq
             · exact .inl hq
             · exact .inr ⟨hq.1, by rw [h3]; omega⟩
           · exact .inr ⟨by omega, by rw [h3]; exact hq.2⟩
         · exact HSC.out.set J ⟨by show f.sf + kk ≤ D.length; rw [HDL.out]; exact Nat.le_refl _, by show D.length ≤ _; rw [HDL.out]; omega⟩
         · show (cur.set J _).length = m
           rw [List.length_set]; exact HLC.out
        case measure => simp [intOf]; omega
  · obtain rfl : J = m := by omega
    obtain ⟨a, cap, c0', c1, c2, c3, hr⟩ := HR.out.rf.row
    have c0 : wr.cell? ⟨c, 0, none⟩ = some (.slice a J cap) := by rw [← HLC.out]; exact c0'
    clear c0'
    obtain ⟨v, hcv, hkv⟩ := HR.out.rf.scal (wr' := s.wr) (ar' := 0) (dn' := false)
    have f1 := frozen_of_row wr c 1 _ _ hcv
    have f2 := frozen_of_row wr c 2 _ _ hcv
    have HCV := Lib.hid hcv
    have HKV := Lib.hid hkv
    have hdone := HC.out.done HM.out.symm
    have HDN := Lib.hid hdone
    clear hr hcv hkv hdone
    go_wp2_with fail
    go_end0
    have h1 := HKV.out ((wr.setCell ⟨c, 1, none⟩ (.bool false)).setCell ⟨c, 2, none⟩ (.int .i64 0)) (((Fr.refl (fun k => k = c) wr).setCell (fun _ => rfl) _).setCell (fun _ => rfl) _) (row_set (row_set HCV.out rfl) rfl)
    have hfr : Fr S w ((wr.setCell ⟨c, 1, none⟩ (.bool false)).setCell ⟨c, 2, none⟩ (.int .i64 0)) := (HR.out.fr.setCell (fun _ => HIN.out) _).setCell (fun _ => HIN.out) _
    refine ⟨rfl, ?_, hfr⟩
    unfold crashS
    rw [← HDN.out]
    refine h1.grow (fun q hq => (HR.out.inx q hq).elim .inl fun h => .inr ⟨h.1, ?_⟩) (fun q hq => ?_)
    · rw [size_setCell, size_setCell]; exact h.2
    · rcases hq with hq | hq
      · exact Nat.lt_of_lt_of_le (HLT.out q hq) hfr.size
      · exact hq.2
end Go.Proofs.YtjjcilinghgphaaGreat

/-! ### The reference's disk: List; lists of texts compared; the laws' Model. Written by a program (e40gen.py). -/
namespace Go.Proofs.YtjjcilinghgphaaGreat
open Go.RowKit Go.Maps Go.Sort
set_option maxRecDepth 100000
attribute [local go_sem] bs_size bs_toList

theorem RTold.behind {w W w' : World} {c : Nat} {S : Nat → Prop} {r : DS × Int} {e : Ending} (hb : Below w.heap.size w W) (h : RTold W c S r e w') : RTold w c S r e w' :=
 ⟨h.1, h.2.1.next (Fr.of_new hb) h.2.2, (Fr.of_new hb).trans h.2.2⟩
/-! ### lists of names -/
/-- A list of texts that reads. -/
def RdS (w : World) (a : Option Addr) (n cap : Nat) (l : List (List UInt8)) : Prop := n = l.length ∧ Rd w a n cap 1 (l.map fun x => Value.string (bs x))
theorem RdS.at {w : World} {a : Option Addr} {n cap : Nat} {l : List (List UInt8)} (h : RdS w a n cap l) {k : Nat} {x : List UInt8} (hx : l[k]? = some x) : ∃ b off, a = some ⟨b, off, none⟩ ∧ w.cell? ⟨b, off + k, none⟩ = some (.string (bs x)) := by
 obtain ⟨rfl, hr⟩ := h
 obtain ⟨b, off, ha, _, hc⟩ := hr.at (by have := (List.getElem?_eq_some_iff.1 hx).1; omega)
 exact ⟨b, off, ha, hc k _ (by rw [List.getElem?_map, hx]; rfl)⟩
theorem RdS.keep {S : Nat → Prop} {w w' : World} {a : Option Addr} {n cap : Nat} {l : List (List UInt8)} (h : RdS w a n cap l) (hf : Fr S w w') (hn : BlkIn a n fun b => ¬ S b) : RdS w' a n cap l := ⟨h.1, h.2.keep0 hf hn⟩
theorem RdS.below {w w' : World} {a : Option Addr} {n cap : Nat} {l : List (List UInt8)} (h : RdS w a n cap l) (hb : Below w.heap.size w w') : RdS w' a n cap l := ⟨h.1, h.2.below hb⟩
theorem info47 : (Tryz.prog.info? 9).map (fun i => (i.zero, i.size, i.bytes)) = some (some (.string ByteArray.empty), 1, 16) := by kernel_rfl
theorem SStr : STy Tryz.prog 60 9 (.string ByteArray.empty) 1 16 := ⟨Tryz.underlying60, info_parts info47, rfl, by decide⟩
theorem nm_len {l : List Fl} {k : Nat} (h : k ≤ l.length) : ((l.take k).map Fl.nm).length = k := by simp; omega
def RLPost (w : World) (l : List Fl) (e : Ending) (w' : World) : Prop := ∃ v, e = .returned v ∧ w'.ownsRow w.heap.size 9 1 v l.length (l.map fun f => Value.string (bs f.nm)) ∧ Below w.heap.size w w'
set_option maxHeartbeats 1000000 in
theorem rlist_any (c : Nat) (S : Nat → Prop) (s : DS) (hl : s.fs.length ≤ 64) (w : World) (h : Rf w c S s) :
 Calls Tryz.prog 61 #[.pointer (some ⟨c, 0, none⟩)] w (RLPost w s.fs) := by
 obtain ⟨a, cap, c0, _, _, _, hr⟩ := h.row
 clear h
 obtain ⟨m, hm⟩ : ∃ m, s.fs.length = m := ⟨_, rfl⟩
 rw [hm] at c0 hr hl
 have HR := Lib.hid hr
 have HM := Lib.hid hm
 have HC := Lib.hid c0
 clear hr hm c0
 go_enter Tryz.func61, Tryz.ntmps61
 go_wp2
 go_loopw [3, 4] (fun v i wr => ∃ k : Nat, k ≤ m ∧ i = .int .i64 k ∧ Hid (wr.ownsRow w.heap.size 9 1 v k ((s.fs.take k).map fun f => Value.string (bs f.nm))) ∧ Hid (Below w.heap.size w wr)) (fun _ i _ => m - (intOf i).toNat)
 case atStart => exact ⟨0, Nat.zero_le _, rfl, World.ownsRow_nil _ _ _ _, Below.refl _ _⟩
 case round =>
  obtain ⟨k, hk, rfl, HO, HB⟩ := hrel
  have c0 := cell_below HC.out HB.out
  have hbs := HB.out.size
  by_cases hlt : k < m
  · obtain ⟨f, hf⟩ : ∃ f, s.fs[k]? = some f := ⟨_, List.getElem?_eq_getElem (by have := HM.out; omega)⟩
    obtain ⟨b, off, ai, ci, rfl, q0, q1, q2, _, _⟩ := (HR.out.below HB.out).at hf
    have HF := Lib.hid hf
    clear hf
    go_wp2_with (at_builtin; refine wpList_app2 SStr rfl _ _ rfl w.heap.size rfl (HO.out.alloc _) rfl (Rd.one _ _ _) (by simp [Value.oneCell']) (by omega) (by unfold maxLen; omega) (Nat.le_trans hbs ((Below.refl 0 wr).alloc (Nat.zero_le _) _).size) ?_)
    intro v3 w3 ho3 hg3 _
    have HO3 := Lib.hid ho3
    have HB3 := Lib.hid (below_app0 HB.out hbs HO.out hg3)
    clear ho3 hg3
    go_wp2
    go_roundw
    case rel => exact ⟨k + 1, by omega, by go_num, by have h3 := HO3.out; rw [← List.map_take] at h3; rw [take_snocE HF.out, List.map_append]; exact h3, HB3.out⟩
    case measure => simp [intOf]; omega
  · obtain rfl : k = m := by omega
    go_wp2
    go_ret
    exact ⟨_, rfl, by have := HO.out; rw [List.take_of_length_le (by rw [HM.out]; exact Nat.le_refl _)] at this; rw [HM.out]; exact this, HB.out⟩
theorem take_next' {l l' : List (List UInt8)} {k : Nat} {f : List UInt8} (h : l.take k = l'.take k) (h1 : l[k]? = some f) (h2 : l'[k]? = some f) : l.take (k + 1) = l'.take (k + 1) := by
 rw [List.take_add_one, List.take_add_one, h, h1, h2]
set_option maxHeartbeats 1000000 in
/-- Two equal lists of texts. -/
theorem texts_same (a a' : Option Addr) (n cap cap' : Nat) (l : List (List UInt8)) (w : World) (h : RdS w a n cap l) (h' : RdS w a' n cap' l) :
 Calls Tryz.prog 70 #[.slice a n cap, .slice a' n cap'] w fun e w' => e = .returned (.bool true) ∧ ∃ m, w' = w.drewN m := by
 have H1 := Lib.hid h
 have H2 := Lib.hid h'
 have hm1 : n ≤ 9223372036854775807 := Nat.le_trans h.2.1 h.2.2.1
 have E1 := Lib.hid h.1
 clear h h'
 go_enter Tryz.func70, Tryz.ntmps70
 go_wp2_with fail
 go_loopw [5] (fun i wr => ∃ k : Nat, k ≤ n ∧ i = .int .i64 k ∧ Hid (∃ m, wr = w.drewN m)) (fun i _ => n - (intOf i).toNat)
 case atStart => exact ⟨0, Nat.zero_le _, rfl, 0, rfl⟩
 case round =>
  obtain ⟨k, hk, rfl, HB⟩ := hrel
  by_cases hlt : k < n
  · obtain ⟨x, hx⟩ : ∃ x, l[k]? = some x := ⟨_, List.getElem?_eq_getElem (by have := E1.out; omega)⟩
    obtain ⟨b, off, rfl, c1⟩ := (H1.out.keep (draws_fr HB.out) (fun _ _ _ h => h)).at hx
    obtain ⟨b', off', rfl, c1'⟩ := (H2.out.keep (draws_fr HB.out) (fun _ _ _ h => h)).at hx
    clear hx
    go_wp2_with fail
    go_quiet (fail)
    go_wp2_with fail
    go_roundw
    case rel => exact ⟨k + 1, by omega, by go_num, draws_next HB.out _⟩
    case measure => simp [intOf]; omega
  · obtain rfl : k = n := by omega
    go_wp2_with fail
    go_ret
    exact ⟨rfl, HB.out⟩
end Go.Proofs.YtjjcilinghgphaaGreat
