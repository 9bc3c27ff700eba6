/-
  The reference's disk: Remove, Arm, Sync.
-/
import Derived.Test.YtdbfkneklkdnaaaE34
namespace Go.Proofs.Ytdbfkneklkdnaaa
open Go.RowKit Go.Maps Go.Sort
set_option maxRecDepth 100000
attribute [local go_sem] bs_size bs_toList

set_option maxHeartbeats 2000000 in
theorem rremove_any (c : Nat) (S : Nat → Prop) (B : Int) (hB : B ≤ 1000000000000) (s : DS) (n : List UInt8) (hok : DOk B s) (w : World) (h : Rf w c S s) :
    Calls Try.prog 50 #[.pointer (some ⟨c, 0, none⟩), .string (bs n)] w (RTold w c S (removeS s n)) := by
  have HS := Lib.hid h.lt
  have HIN := Lib.hid h.in
  have HRF := Lib.hid h
  have hlen := hok.len
  have HAT := Lib.hid (at_any c S s n hok.len w h)
  obtain ⟨a, cap, c0, c1, c2, c3, hr⟩ := h.row
  cases hdn : s.dn with
  | true =>
    rw [hdn] at c1
    have hres : Hid (removeS s n = (s, 12)) := errW_dn hdn
    clear hr hdn h
    go_enter Try.func50, Try.ntmps50
    go_wp2_with (go_at_call 56; ((with_reducible refine (HAT.out).mono ?_); rintro e w1 ⟨rfl, rfl⟩))
    go_ret
    exact RTold.same (by rw [hres.out]; rfl) HRF.out (by rw [hres.out]) (Fr.refl _ _) HS.out
  | false =>
    rw [hdn] at c1
    rcases atI_get (n := n) (l := s.fs) with ⟨f, k, hg, hf, hk, hat⟩ | ⟨hg, hat⟩
    · rw [hat] at HAT
      have he : hasE s n = 0 := by unfold hasE; rw [hg]; rfl
      obtain ⟨s1, hs1⟩ : ∃ s1, (fallS s).1 = s1 := ⟨_, rfl⟩
      have hfs1 : s1.fs = s.fs := by rw [← hs1]; exact fallS_fs s
      cases hfb : (fallS s).2 with
      | true =>
        have HFA := Lib.hid (falls_out hB hok hdn h hfb hs1)
        have hres : Hid (removeS s n = (s1, 12)) := by unfold removeS; rw [he, ← hs1]; exact errW_fall hdn rfl hfb
        obtain ⟨m, hm⟩ : ∃ m, s.fs.length = m := ⟨_, rfl⟩
        rw [hm] at c0 hlen hk
        clear hr hdn h hg hf hat hm hfb hs1 hfs1 he
        go_enter Try.func50, Try.ntmps50
        go_wp2_with (first | (go_at_call 56; ((with_reducible refine (HAT.out).mono ?_); rintro e w1 ⟨rfl, rfl⟩)) | (go_at_call 66; ((with_reducible refine (HFA.out).mono ?_); rintro e w1 ⟨rfl, hr1, hf1⟩; have HR1 := Lib.hid hr1; have HF1 := Lib.hid hf1; clear hr1 hf1)))
        go_ret
        exact RTold.same (by rw [hres.out]; rfl) HR1.out (by rw [hres.out]) (HF1.out.one HIN.out) HS.out
      | false =>
        have HFA := Lib.hid (falls_out hB hok hdn h hfb hs1)
        have hfn := (getF_some hg).2
        have hres : Hid (removeS s n = ({ s1 with fs := s1.fs.take k ++ s1.fs.drop (k + 1) }, 0)) := by
          unfold removeS; rw [he, errW_ok hdn rfl hfb, hs1]
          show (({ s1 with fs := delF n s1.fs } : DS), (0 : Int)) = _
          rw [hfs1, ← hfn, del_split hok.srt hf]
        have HP : Hid (∀ W, Rf W c S s1 → Calls Try.prog 67 #[.pointer (some ⟨c, 0, none⟩), .int .i64 (k : Nat)] W (RPost W c S { s1 with fs := s1.fs.take k ++ s1.fs.drop (k + 1) })) := fun W hW =>
          drop_any_ c S s1 k (by rw [hfs1]; omega) (by rw [hfs1]; exact hk) W hW
        obtain ⟨m, hm⟩ : ∃ m, s.fs.length = m := ⟨_, rfl⟩
        rw [hm] at c0 hlen hk
        clear hr hdn h hg hf hat hm hfb hs1 hfs1 he hfn
        go_enter Try.func50, Try.ntmps50
        go_wp2_with (first | (go_at_call 56; ((with_reducible refine (HAT.out).mono ?_); rintro e w1 ⟨rfl, rfl⟩)) | (go_at_call 66; ((with_reducible refine (HFA.out).mono ?_); rintro e w1 ⟨rfl, hr1, hf1⟩; have HR1 := Lib.hid hr1; have HF1 := Lib.hid hf1; clear hr1 hf1)) | (go_at_call 67; ((with_reducible refine (HP.out _ HR1.out).mono ?_); rintro e w2 ⟨rfl, hr2, hf2⟩; have HR2 := Lib.hid hr2; have HF2 := Lib.hid hf2; clear hr2 hf2)))
        go_ret
        exact ⟨by rw [hres.out]; rfl, by rw [hres.out]; exact HR2.out.next (HF1.out.one HIN.out) (HF2.out.one HIN.out), (HF1.out.one HIN.out).trans (HF2.out.one HIN.out)⟩
    · rw [hat] at HAT
      have hres : Hid (removeS s n = (s, 8)) := by
        have : hasE s n = 8 := by unfold hasE; rw [hg]; rfl
        unfold removeS; rw [this]; exact errW_err hdn (by decide)
      clear hr hdn h hg hat
      go_enter Try.func50, Try.ntmps50
      go_wp2_with (go_at_call 56; ((with_reducible refine (HAT.out).mono ?_); rintro e w1 ⟨rfl, rfl⟩))
      go_ret
      exact RTold.same (by rw [hres.out]; rfl) HRF.out (by rw [hres.out]) (Fr.refl _ _) HS.out
set_option maxHeartbeats 2000000 in
theorem rsync_any (c : Nat) (S : Nat → Prop) (B : Int) (hB : B ≤ 1000000000000) (s : DS) (n : List UInt8) (hok : DOk B s) (w : World) (h : Rf w c S s) :
    Calls Try.prog 47 #[.pointer (some ⟨c, 0, none⟩), .string (bs n)] w (RTold w c S (syncS s n)) := by
  have HS := Lib.hid h.lt
  have HIN := Lib.hid h.in
  have HRF := Lib.hid h
  have hlen := hok.len
  have HAT := Lib.hid (at_any c S s n hok.len w h)
  obtain ⟨a, cap, c0, c1, c2, c3, hr⟩ := h.row
  cases hdn : s.dn with
  | true =>
    rw [hdn] at c1
    have hres : Hid (syncS s n = (s, 12)) := errW_dn hdn
    clear hr hdn h
    go_enter Try.func47, Try.ntmps47
    go_wp2_with (go_at_call 56; ((with_reducible refine (HAT.out).mono ?_); rintro e w1 ⟨rfl, rfl⟩))
    go_ret
    exact RTold.same (by rw [hres.out]; rfl) HRF.out (by rw [hres.out]) (Fr.refl _ _) HS.out
  | false =>
    rw [hdn] at c1
    rcases atI_get (n := n) (l := s.fs) with ⟨f, k, hg, hf, hk, hat⟩ | ⟨hg, hat⟩
    · rw [hat] at HAT
      have he : hasE s n = 0 := by unfold hasE; rw [hg]; rfl
      obtain ⟨s1, hs1⟩ : ∃ s1, (fallS s).1 = s1 := ⟨_, rfl⟩
      have hfs1 : s1.fs = s.fs := by rw [← hs1]; exact fallS_fs s
      cases hfb : (fallS s).2 with
      | true =>
        have HFA := Lib.hid (falls_out hB hok hdn h hfb hs1)
        have hres : Hid (syncS s n = (s1, 12)) := by unfold syncS; rw [he, ← hs1]; exact errW_fall hdn rfl hfb
        obtain ⟨m, hm⟩ : ∃ m, s.fs.length = m := ⟨_, rfl⟩
        rw [hm] at c0 hlen hk
        clear hr hdn h hg hf hat hm hfb hs1 hfs1 he
        go_enter Try.func47, Try.ntmps47
        go_wp2_with (first | (go_at_call 56; ((with_reducible refine (HAT.out).mono ?_); rintro e w1 ⟨rfl, rfl⟩)) | (go_at_call 66; ((with_reducible refine (HFA.out).mono ?_); rintro e w1 ⟨rfl, hr1, hf1⟩; have HR1 := Lib.hid hr1; have HF1 := Lib.hid hf1; clear hr1 hf1)))
        go_ret
        exact RTold.same (by rw [hres.out]; rfl) HR1.out (by rw [hres.out]) (HF1.out.one HIN.out) HS.out
      | false =>
        have HFA := Lib.hid (falls_out hB hok hdn h hfb hs1)
        have hfn := (getF_some hg).2
        have hf1 : s1.fs[k]? = some f := by rw [hfs1]; exact hf
        have hres : Hid (syncS s n = ({ s1 with fs := s1.fs.set k ⟨f.nm, f.dt, f.dt.length⟩ }, 0)) := by
          unfold syncS; rw [he, errW_ok hdn rfl hfb, hs1]
          show (({ s1 with fs := updF n (fun f => ⟨f.nm, f.dt, f.dt.length⟩) s1.fs } : DS), (0 : Int)) = _
          rw [hfs1, ← hfn, upd_set hok.srt hf]
        obtain ⟨m, hm⟩ : ∃ m, s.fs.length = m := ⟨_, rfl⟩
        have hm1 : s1.fs.length = m := by rw [hfs1]; exact hm
        rw [hm] at c0 hlen hk
        have HFK := Lib.hid hf1
        have HM1 := Lib.hid hm1
        clear hr hdn h hg hf hat hm hfb hs1 hfs1 he hfn hf1 hm1
        go_enter Try.func47, Try.ntmps47
        go_wp2_with (go_at_call 56; ((with_reducible refine (HAT.out).mono ?_); rintro e w1 ⟨rfl, rfl⟩))
        go_at_call 66
        refine (HFA.out).mono ?_
        rintro e w1 ⟨rfl, hr1, hf1⟩
        obtain ⟨b, cap1, aj, cj, hc1, v0, v1, v2, v3, v4, v5, v6, v7, v8⟩ := hr1.view HFK.out
        rw [HM1.out] at hc1
        have c0 := cell_of_row w1 c 0 _ _ _ hc1
        have HR1 := Lib.hid hr1
        have HF1 := Lib.hid hf1
        have hdl : f.dt.length ≤ 9223372036854775807 := by have := v5.2.1; have := v5.2.2.1; unfold maxLen at this; omega
        have HC0 := Lib.hid c0
        have HSB := Lib.hid v8
        clear hr1 hf1 hc1 v5 v6 v7 v8
        go_wp2_with fail
        refine wp_region_ht 16 (fun W => W.cell? ⟨c, 0, none⟩ = some (.slice (some ⟨b, 0, none⟩) m cap1) ∧ W.cell? ⟨b, k * 3 + 1, none⟩ = some (.slice aj f.dt.length cj)) (by kernel_rfl) (by kernel_rfl) ?_ (fun hHeld => ?_)
        · exact ⟨c0, v1⟩
        try simp only [Act.put, List.setIfInBounds_toArray, List.set_cons_zero, List.set_cons_succ]
        refine wpHT_takeD (i := 0) (d := 20) (v := ?_) (by kernel_rfl) rfl rfl (by decide) (by kernel_rfl) (by kernel_rfl) (fun _ _ _ h => h) (Or.inl ⟨by kernel_rfl, ?_⟩) (by assumption) ?_
        rotate_left
        · intro w hSw; (try dsimp only at hSw); go_simp; (try with_reducible rfl)
        try simp only [Act.put, List.setIfInBounds_toArray, List.set_cons_zero, List.set_cons_succ]
        refine wpHT_takeD (i := 1) (d := 21) (v := ?_) (by kernel_rfl) rfl rfl (by decide) (by kernel_rfl) (by kernel_rfl) (fun _ _ _ h => h) (Or.inl ⟨by kernel_rfl, ?_⟩) (by assumption) ?_
        rotate_left
        · intro w hSw; (try dsimp only at hSw); go_simp; (try with_reducible rfl)
        try simp only [Act.put, List.setIfInBounds_toArray, List.set_cons_zero, List.set_cons_succ]
        refine wpHT_takeD (i := 2) (d := 22) (v := ?_) (by kernel_rfl) rfl rfl (by decide) (by kernel_rfl) (by kernel_rfl) (fun _ _ _ h => h) (Or.inl ⟨by kernel_rfl, ?_⟩) (by assumption) ?_
        rotate_left
        · intro w hSw; (try dsimp only at hSw); go_simp; (try with_reducible rfl)
        try simp only [Act.put, List.setIfInBounds_toArray, List.set_cons_zero, List.set_cons_succ]
        refine wpHT_takeD (i := 3) (d := 23) (v := ?_) (by kernel_rfl) rfl rfl (by decide) (by kernel_rfl) (by kernel_rfl) (fun _ _ _ h => h) (Or.inl ⟨by kernel_rfl, ?_⟩) (by assumption) ?_
        rotate_left
        · intro w hSw; (try dsimp only at hSw); go_simp; (try with_reducible rfl)
        try simp only [Act.put, List.setIfInBounds_toArray, List.set_cons_zero, List.set_cons_succ]
        refine wpHT_takeD (i := 4) (d := 24) (v := ?_) (by kernel_rfl) rfl rfl (by decide) (by kernel_rfl) (by kernel_rfl) (fun _ _ _ h => h) (Or.inl ⟨by kernel_rfl, ?_⟩) (by assumption) ?_
        rotate_left
        · intro w hSw; (try dsimp only at hSw); go_simp; (try with_reducible rfl)
        try simp only [Act.put, List.setIfInBounds_toArray, List.set_cons_zero, List.set_cons_succ]
        refine wpHT_takeD (i := 5) (d := 25) (v := ?_) (by kernel_rfl) rfl rfl (by decide) (by kernel_rfl) (by kernel_rfl) (fun _ _ _ h => h) (Or.inl ⟨by kernel_rfl, ?_⟩) (by assumption) ?_
        rotate_left
        · intro w hSw; (try dsimp only at hSw); go_simp; (try with_reducible rfl)
        try simp only [Act.put, List.setIfInBounds_toArray, List.set_cons_zero, List.set_cons_succ]
        refine wpHT_takeD (i := 6) (d := 26) (v := ?_) (by kernel_rfl) rfl rfl (by decide) (by kernel_rfl) (by kernel_rfl) (fun _ _ _ h => h) (Or.inl ⟨by kernel_rfl, ?_⟩) (by assumption) ?_
        rotate_left
        · intro w hSw; (try dsimp only at hSw); go_simp; (try with_reducible rfl)
        try simp only [Act.put, List.setIfInBounds_toArray, List.set_cons_zero, List.set_cons_succ]
        refine wpHT_takeD (i := 7) (d := 27) (v := ?_) (by kernel_rfl) rfl rfl (by decide) (by kernel_rfl) (by kernel_rfl) (fun _ _ _ h => h) (Or.inl ⟨by kernel_rfl, ?_⟩) (by assumption) ?_
        rotate_left
        · intro w hSw; (try dsimp only at hSw); go_simp; (try with_reducible rfl)
        try simp only [Act.put, List.setIfInBounds_toArray, List.set_cons_zero, List.set_cons_succ]
        refine wpHT_takeD (i := 8) (d := 28) (v := ?_) (by kernel_rfl) rfl rfl (by decide) (by kernel_rfl) (by kernel_rfl) (fun _ _ _ h => h) (Or.inl ⟨by kernel_rfl, ?_⟩) (by assumption) ?_
        rotate_left
        · intro w hSw; (try dsimp only at hSw); go_simp; (try with_reducible rfl)
        try simp only [Act.put, List.setIfInBounds_toArray, List.set_cons_zero, List.set_cons_succ]
        refine wpHT_takeD (i := 9) (d := 29) (v := ?_) (by kernel_rfl) rfl rfl (by decide) (by kernel_rfl) (by kernel_rfl) (fun _ _ _ h => h) (Or.inl ⟨by kernel_rfl, ?_⟩) (by assumption) ?_
        rotate_left
        · intro w hSw; (try dsimp only at hSw); go_simp; (try with_reducible rfl)
        try simp only [Act.put, List.setIfInBounds_toArray, List.set_cons_zero, List.set_cons_succ]
        refine wpHT_takeD (i := 10) (d := 30) (v := ?_) (by kernel_rfl) rfl rfl (by decide) (by kernel_rfl) (by kernel_rfl) (fun _ _ _ h => h) (Or.inl ⟨by kernel_rfl, ?_⟩) (by assumption) ?_
        rotate_left
        · intro w hSw; (try dsimp only at hSw); go_simp; (try with_reducible rfl)
        try simp only [Act.put, List.setIfInBounds_toArray, List.set_cons_zero, List.set_cons_succ]
        refine wpHT_takeD (i := 11) (d := 31) (v := ?_) (by kernel_rfl) rfl rfl (by decide) (by kernel_rfl) (by kernel_rfl) (fun _ _ _ h => h) (Or.inl ⟨by kernel_rfl, ?_⟩) (by assumption) ?_
        rotate_left
        · intro w hSw; (try dsimp only at hSw); go_simp; (try with_reducible rfl)
        try simp only [Act.put, List.setIfInBounds_toArray, List.set_cons_zero, List.set_cons_succ]
        refine wpHT_takeD (i := 12) (d := 32) (v := ?_) (by kernel_rfl) rfl rfl (by decide) (by kernel_rfl) (by kernel_rfl) (fun _ _ _ h => h) (Or.inl ⟨by kernel_rfl, ?_⟩) (by assumption) ?_
        rotate_left
        · intro w hSw; (try dsimp only at hSw); go_simp; (try with_reducible rfl)
        try simp only [Act.put, List.setIfInBounds_toArray, List.set_cons_zero, List.set_cons_succ]
        refine wpHT_takeD (i := 13) (d := 33) (v := ?_) (by kernel_rfl) rfl rfl (by decide) (by kernel_rfl) (by kernel_rfl) (fun _ _ _ h => h) (Or.inl ⟨by kernel_rfl, ?_⟩) (by assumption) ?_
        rotate_left
        · intro w hSw; (try dsimp only at hSw); go_simp; (try with_reducible rfl)
        try simp only [Act.put, List.setIfInBounds_toArray, List.set_cons_zero, List.set_cons_succ]
        refine wpHT_takeD (i := 14) (d := 34) (v := ?_) (by kernel_rfl) rfl rfl (by decide) (by kernel_rfl) (by kernel_rfl) (fun _ _ _ h => h) (Or.inl ⟨by kernel_rfl, ?_⟩) (by assumption) ?_
        rotate_left
        · intro w hSw; (try dsimp only at hSw); go_simp; (try with_reducible rfl)
        try simp only [Act.put, List.setIfInBounds_toArray, List.set_cons_zero, List.set_cons_succ]
        refine wpHT_takeD (i := 15) (d := 35) (v := ?_) (by kernel_rfl) rfl rfl (by decide) (by kernel_rfl) (by kernel_rfl) (fun _ _ _ h => h) (Or.inl ⟨by kernel_rfl, ?_⟩) (by assumption) ?_
        rotate_left
        · intro w hSw; (try dsimp only at hSw); go_simp; (try with_reducible rfl)
        try simp only [Act.put, List.setIfInBounds_toArray, List.set_cons_zero, List.set_cons_succ]
        refine wpHT_done (by kernel_rfl) ?_
        simp only [List.drop_succ_cons, List.drop_zero]
        go_wp2
        go_ret
        have hfr : Fr S w1.drew (w1.drew.setCell ⟨b, k * 3 + 2, none⟩ (.int .i64 (f.dt.length : Nat))) := (Fr.refl S w1.drew).setCell (fun _ => HSB.out) _
        have hset := (HR1.out.keep ((Fr.refl (fun _ => False) w1).drew) (fun _ _ h => h)).setS HFK.out HC0.out f.dt.length
        have hfa := (HF1.out.one HIN.out).drew.trans hfr
        exact RTold.same (by rw [hres.out]; rfl) hset (by rw [hres.out]) hfa HS.out
    · rw [hat] at HAT
      have hres : Hid (syncS s n = (s, 8)) := by
        have : hasE s n = 8 := by unfold hasE; rw [hg]; rfl
        unfold syncS; rw [this]; exact errW_err hdn (by decide)
      clear hr hdn h hg hat
      go_enter Try.func47, Try.ntmps47
      go_wp2_with (go_at_call 56; ((with_reducible refine (HAT.out).mono ?_); rintro e w1 ⟨rfl, rfl⟩))
      go_ret
      exact RTold.same (by rw [hres.out]; rfl) HRF.out (by rw [hres.out]) (Fr.refl _ _) HS.out
set_option maxHeartbeats 1000000 in
theorem rarm_any (c : Nat) (S : Nat → Prop) (s : DS) (n : Int) (_h0 : -9223372036854775808 ≤ n) (_h1 : n ≤ 9223372036854775807) (w : World) (h : Rf w c S s) :
    Calls Try.prog 51 #[.pointer (some ⟨c, 0, none⟩), .int .i64 n] w fun e w' => e = .returned (.tuple #[]) ∧ Rf w' c S (armS s n) ∧ Fr S w w' := by
  have HRF := Lib.hid h
  have HIN := Lib.hid h.in
  obtain ⟨a, cap, c0, c1, c2, c3, hr⟩ := h.row
  cases hdn : s.dn with
  | true =>
    rw [hdn] at c1
    have hres : Hid (armS s n = s) := by show _ = _; unfold armS; rw [hdn]; rfl
    clear hr hdn h
    go_enter Try.func51, Try.ntmps51
    go_wp2
    go_end0
    exact ⟨rfl, by rw [hres.out]; exact HRF.out, Fr.refl _ _⟩
  | false =>
    obtain ⟨v, hc, hk⟩ := h.scal (wr' := s.wr) (ar' := max n 0) (dn' := s.dn)
    have hres : Hid (armS s n = ⟨s.fs, s.wr, max n 0, s.dn⟩) := by show _ = _; unfold armS; rw [hdn]; rfl
    have HK := Lib.hid hk
    have HC := Lib.hid hc
    have f2 := frozen_of_row w c 2 _ _ hc
    rw [hdn] at c1
    clear hr hdn h hc hk
    go_enter Try.func51, Try.ntmps51
    go_wp2
    go_end0
    refine ⟨rfl, by rw [hres.out]; exact HK.out _ ((Fr.refl (fun k => k = c) w).setCell (fun _ => rfl) _) (row_set HC.out rfl), (Fr.refl S w).setCell (fun _ => HIN.out) _⟩
end Go.Proofs.Ytdbfkneklkdnaaa
