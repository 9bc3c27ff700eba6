/-
  The reference's disk: Cut.
-/
import Derived.Test.YtdbfkneklkdnaaaE36
namespace Go.Proofs.Ytdbfkneklkdnaaa
open Go.RowKit Go.Maps Go.Sort
set_option maxRecDepth 100000
attribute [local go_sem] bs_size bs_toList

theorem size_setCell (w : World) (p : Addr) (v : Value) : (w.setCell p v).heap.size = w.heap.size := by simp [World.setCell]
theorem Rf.drew {w : World} {c : Nat} {S : Nat → Prop} {s : DS} (h : Rf w c S s) : Rf w.drew c S s := h.keep ((Fr.refl (fun _ => False) w).drew) (fun _ _ h => h)
theorem get_set_self {α : Type} {l : List α} {k : Nat} {x y : α} (h : l[k]? = some x) : (l.set k y)[k]? = some y := by
  rw [List.getElem?_set, if_pos rfl, if_pos (List.getElem?_eq_some_iff.1 h).1]
set_option maxHeartbeats 4000000 in
theorem rcut_any (c : Nat) (S : Nat → Prop) (B : Int) (hB : B ≤ 1000000000000) (s : DS) (n : List UInt8) (N : Int) (hN0 : -9223372036854775808 ≤ N) (hN1 : N ≤ 9223372036854775807) (hok : DOk B s) (w : World) (h : Rf w c S s) :
    Calls Try.prog 48 #[.pointer (some ⟨c, 0, none⟩), .string (bs n), .int .i64 N] w (RTold w c S (cutS s n N)) := by
  have HS := Lib.hid h.lt
  have HIN := Lib.hid h.in
  have HRF := Lib.hid h
  have hlen := hok.len
  have HAT := Lib.hid (at_any c S s n hok.len w h)
  obtain ⟨a, cap, c0, c1, c2, c3, hr⟩ := h.row
  cases hdn : s.dn with
  | true =>
    rw [hdn] at c1
    have hres : Hid (cutS s n N = (s, 12)) := errW_dn hdn
    clear hr hdn h
    go_enter Try.func48, Try.ntmps48
    go_wp2_with (go_at_call 56; ((with_reducible refine (HAT.out).mono ?_); rintro e w1 ⟨rfl, rfl⟩))
    go_ret
    exact RTold.same (by rw [hres.out]; rfl) HRF.out (by rw [hres.out]) (Fr.refl _ _) HS.out
  | false =>
    rw [hdn] at c1
    rcases atI_get (n := n) (l := s.fs) with ⟨f, k, hg, hf, hk, hat⟩ | ⟨hg, hat⟩
    · rw [hat] at HAT
      obtain ⟨m, hm⟩ : ∃ m, s.fs.length = m := ⟨_, rfl⟩
      clear c0
      obtain ⟨b, cap1, aj, cj, hc1, v0, v1, v2, v3, v4, v5, v6, v7, v8⟩ := h.view hf
      have hdl : f.dt.length ≤ 4194304 := Nat.le_trans (dt_le_tot (List.mem_of_getElem? hf)) hok.tot
      rw [hm] at hc1 hlen hk
      have c0 := cell_of_row w c 0 _ _ _ hc1
      have hsfl : f.sf ≤ f.dt.length := (hok.each f (List.mem_of_getElem? hf)).2.2
      clear v3 v4 v5 v6 v7 v8 v0 v2 hc1
      by_cases hbad : N < 0 ∨ (f.dt.length : Int) < N
      · have hres : Hid (cutS s n N = (s, 1)) := by
          have : cutE s n N = 1 := by unfold cutE; rw [hg]; simp only []; rw [if_pos hbad]
          unfold cutS; rw [this]; exact errW_err hdn (by decide)
        by_cases hneg : N < 0
        · have d1 : decide (N < 0) = true := by simpa using hneg
          clear hr hdn h hg hf hat hbad hm
          go_enter Try.func48, Try.ntmps48
          go_wp2_with (go_at_call 56; ((with_reducible refine (HAT.out).mono ?_); rintro e w1 ⟨rfl, rfl⟩))
          go_ret
          exact RTold.same (by rw [hres.out]; rfl) HRF.out (by rw [hres.out]) (Fr.refl _ _) HS.out
        · have d1 : decide (N < 0) = false := by simpa using hneg
          have hgt : (f.dt.length : Int) < N := hbad.resolve_left hneg
          have d2 : decide ((f.dt.length : Int) < N) = true := by simpa using hgt
          clear hr hdn h hg hf hat hbad hm
          go_enter Try.func48, Try.ntmps48
          go_wp2_with (go_at_call 56; ((with_reducible refine (HAT.out).mono ?_); rintro e w1 ⟨rfl, rfl⟩))
          go_ret
          exact RTold.same (by rw [hres.out]; rfl) HRF.out (by rw [hres.out]) (Fr.refl _ _) HS.out
      · obtain ⟨K, rfl⟩ : ∃ K : Nat, N = (K : Nat) := ⟨N.toNat, by omega⟩
        have hK : K ≤ f.dt.length := by omega
        have he : cutE s n (K : Nat) = 0 := by unfold cutE; rw [hg]; simp only []; rw [if_neg hbad]
        have d1 : decide ((K : Int) < 0) = false := by simp
        have d2 : decide (f.dt.length < K) = false := by simp; omega
        obtain ⟨s1, hs1⟩ : ∃ s1, (fallS s).1 = s1 := ⟨_, rfl⟩
        have hfs1 : s1.fs = s.fs := by rw [← hs1]; exact fallS_fs s
        cases hfb : (fallS s).2 with
        | true =>
          have HFA := Lib.hid (falls_out hB hok hdn h hfb hs1)
          have hres : Hid (cutS s n (K : Nat) = (s1, 12)) := by unfold cutS; rw [he, ← hs1]; exact errW_fall hdn rfl hfb
          clear hr hdn h hg hf hat hm hfb hs1 hfs1 he hbad
          go_enter Try.func48, Try.ntmps48
          go_wp2_with (first | (go_at_call 56; ((with_reducible refine (HAT.out).mono ?_); rintro e w1 ⟨rfl, rfl⟩)) | (go_at_call 66; ((with_reducible refine (HFA.out).mono ?_); rintro e w1 ⟨rfl, hr1, hf1⟩; have HR1 := Lib.hid hr1; have HF1 := Lib.hid hf1; clear hr1 hf1)))
          go_ret
          exact RTold.same (by rw [hres.out]; rfl) HR1.out (by rw [hres.out]) (HF1.out.one HIN.out) HS.out
        | false =>
          have HFA := Lib.hid (falls_out hB hok hdn h hfb hs1)
          have hfn := (getF_some hg).2
          have hf1 : s1.fs[k]? = some f := by rw [hfs1]; exact hf
          have hres : Hid (cutS s n (K : Nat) = ({ s1 with fs := s1.fs.set k ⟨f.nm, f.dt.take K, min f.sf K⟩ }, 0)) := by
            unfold cutS; rw [he, errW_ok hdn rfl hfb, hs1]
            show (({ s1 with fs := updF n (fun f => ⟨f.nm, f.dt.take (K : Int).toNat, min f.sf (K : Int).toNat⟩) s1.fs } : DS), (0 : Int)) = _
            rw [hfs1, ← hfn, upd_set hok.srt hf]; rfl
          have hm1 : s1.fs.length = m := by rw [hfs1]; exact hm
          have HFK := Lib.hid hf1
          have HM1 := Lib.hid hm1
          clear hr hdn h hg hf hat hm hfb hs1 hfs1 he hfn hf1 hm1 hbad
          go_enter Try.func48, Try.ntmps48
          go_wp2_with (go_at_call 56; ((with_reducible refine (HAT.out).mono ?_); rintro e w1 ⟨rfl, rfl⟩))
          go_at_call 66
          refine (HFA.out).mono ?_
          rintro e w1 ⟨rfl, hr1, hf1⟩
          clear c0 v1 c1 c2 c3
          obtain ⟨b, cap1, aj, cj, hc1, v0, v1, v2, v3, v4, v5, v6, v7, v8⟩ := hr1.view HFK.out
          rw [HM1.out] at hc1
          have c0 := cell_of_row w1 c 0 _ _ _ hc1
          have HR1 := Lib.hid hr1
          have HF1 := Lib.hid (hf1.one HIN.out)
          have HS1 := Lib.hid hr1.lt
          have HBW : Hid (b < w1.heap.size) := hr1.lt b v8
          have HC0 := Lib.hid c0
          have HSB := Lib.hid v8
          have H8 := Lib.hid v5
          have HV3 := Lib.hid v3
          obtain ⟨ad, cd, hrun, hrd⟩ := run_slice8 (P := Try.prog) S5 v5 none (some (.int .i64 (K : Nat))) 0 K (.inl ⟨rfl, rfl⟩) (.inr rfl) (Nat.zero_le _) hK
          rw [Nat.sub_zero] at hrun hrd
          rw [List.drop_zero] at hrd
          obtain ⟨D, hD⟩ : ∃ D, f.dt.take K = D := ⟨_, rfl⟩
          have hDl : D.length = K := by rw [← hD, List.length_take]; omega
          rw [hD] at hrd hres
          have HRD := Lib.hid hrd
          have HDL := Lib.hid hDl
          clear hr1 hf1 hc1 v3 v4 v5 v6 v7 v8 v0 v2 hrd hD hDl
          go_wp2_with fail
          refine wp_region_ht 18 (fun W => W.cell? ⟨c, 0, none⟩ = some (.slice (some ⟨b, 0, none⟩) m cap1) ∧ W.cell? ⟨b, k * 3 + 1, none⟩ = some (.slice aj f.dt.length cj)) (by kernel_rfl) (by kernel_rfl) ?_ (fun hHeld => ?_)
          · exact ⟨c0, v1⟩
          try simp only [Act.put, List.setIfInBounds_toArray, List.set_cons_zero, List.set_cons_succ]
          refine wpHT_takeD (i := 0) (d := 38) (v := ?_) (by kernel_rfl) rfl rfl (by decide) (by kernel_rfl) (by kernel_rfl) (fun _ _ _ h => h) (Or.inl ⟨by kernel_rfl, ?_⟩) (by assumption) ?_
          rotate_left
          · intro w hSw; (try dsimp only at hSw); go_simp; (try with_reducible rfl)
          try simp only [Act.put, List.setIfInBounds_toArray, List.set_cons_zero, List.set_cons_succ]
          refine wpHT_takeD (i := 1) (d := 39) (v := ?_) (by kernel_rfl) rfl rfl (by decide) (by kernel_rfl) (by kernel_rfl) (fun _ _ _ h => h) (Or.inl ⟨by kernel_rfl, ?_⟩) (by assumption) ?_
          rotate_left
          · intro w hSw; (try dsimp only at hSw); go_simp; (try with_reducible rfl)
          try simp only [Act.put, List.setIfInBounds_toArray, List.set_cons_zero, List.set_cons_succ]
          refine wpHT_takeD (i := 2) (d := 40) (v := ?_) (by kernel_rfl) rfl rfl (by decide) (by kernel_rfl) (by kernel_rfl) (fun _ _ _ h => h) (Or.inl ⟨by kernel_rfl, ?_⟩) (by assumption) ?_
          rotate_left
          · intro w hSw; (try dsimp only at hSw); go_simp; (try with_reducible rfl)
          try simp only [Act.put, List.setIfInBounds_toArray, List.set_cons_zero, List.set_cons_succ]
          refine wpHT_takeD (i := 3) (d := 41) (v := ?_) (by kernel_rfl) rfl rfl (by decide) (by kernel_rfl) (by kernel_rfl) (fun _ _ _ h => h) (Or.inl ⟨by kernel_rfl, ?_⟩) (by assumption) ?_
          rotate_left
          · intro w hSw; (try dsimp only at hSw); go_simp; (try with_reducible rfl)
          try simp only [Act.put, List.setIfInBounds_toArray, List.set_cons_zero, List.set_cons_succ]
          refine wpHT_takeD (i := 4) (d := 42) (v := ?_) (by kernel_rfl) rfl rfl (by decide) (by kernel_rfl) (by kernel_rfl) (fun _ _ _ h => h) (Or.inl ⟨by kernel_rfl, ?_⟩) (by assumption) ?_
          rotate_left
          · intro w hSw; (try dsimp only at hSw); go_simp; (try with_reducible rfl)
          try simp only [Act.put, List.setIfInBounds_toArray, List.set_cons_zero, List.set_cons_succ]
          refine wpHT_takeD (i := 5) (d := 43) (v := ?_) (by kernel_rfl) rfl rfl (by decide) (by kernel_rfl) (by kernel_rfl) (fun _ _ _ h => h) (Or.inl ⟨by kernel_rfl, ?_⟩) (by assumption) ?_
          rotate_left
          · intro w hSw; (try dsimp only at hSw); go_simp; (try with_reducible rfl)
          try simp only [Act.put, List.setIfInBounds_toArray, List.set_cons_zero, List.set_cons_succ]
          refine wpHT_takeD (i := 6) (d := 44) (v := ?_) (by kernel_rfl) rfl rfl (by decide) (by kernel_rfl) (by kernel_rfl) (fun _ _ _ h => h) (Or.inl ⟨by kernel_rfl, ?_⟩) (by assumption) ?_
          rotate_left
          · intro w hSw; (try dsimp only at hSw); go_simp; (try with_reducible rfl)
          try simp only [Act.put, List.setIfInBounds_toArray, List.set_cons_zero, List.set_cons_succ]
          refine wpHT_takeD (i := 7) (d := 45) (v := ?_) (by kernel_rfl) rfl rfl (by decide) (by kernel_rfl) (by kernel_rfl) (fun _ _ _ h => h) (Or.inl ⟨by kernel_rfl, ?_⟩) (by assumption) ?_
          rotate_left
          · intro w hSw; (try dsimp only at hSw); go_simp; (try with_reducible rfl)
          try simp only [Act.put, List.setIfInBounds_toArray, List.set_cons_zero, List.set_cons_succ]
          refine wpHT_takeD (i := 8) (d := 46) (v := ?_) (by kernel_rfl) rfl rfl (by decide) (by kernel_rfl) (by kernel_rfl) (fun _ _ _ h => h) (Or.inl ⟨by kernel_rfl, ?_⟩) (by assumption) ?_
          rotate_left
          · intro w hSw; (try dsimp only at hSw); go_simp; (try with_reducible rfl)
          try simp only [Act.put, List.setIfInBounds_toArray, List.set_cons_zero, List.set_cons_succ]
          refine wpHT_takeD (i := 9) (d := 47) (v := ?_) (by kernel_rfl) rfl rfl (by decide) (by kernel_rfl) (by kernel_rfl) (fun _ _ _ h => h) (Or.inl ⟨by kernel_rfl, ?_⟩) (by assumption) ?_
          rotate_left
          · intro w hSw; (try dsimp only at hSw); go_simp; (try with_reducible rfl)
          try simp only [Act.put, List.setIfInBounds_toArray, List.set_cons_zero, List.set_cons_succ]
          refine wpHT_takeD (i := 10) (d := 48) (v := ?_) (by kernel_rfl) rfl rfl (by decide) (by kernel_rfl) (by kernel_rfl) (fun _ _ _ h => h) (Or.inl ⟨by kernel_rfl, ?_⟩) (by assumption) ?_
          rotate_left
          · intro w hSw; (try dsimp only at hSw); go_simp; (try with_reducible rfl)
          try simp only [Act.put, List.setIfInBounds_toArray, List.set_cons_zero, List.set_cons_succ]
          refine wpHT_takeD (i := 11) (d := 49) (v := ?_) (by kernel_rfl) rfl rfl (by decide) (by kernel_rfl) (by kernel_rfl) (fun _ _ _ h => h) (Or.inl ⟨by kernel_rfl, ?_⟩) (by assumption) ?_
          rotate_left
          · intro w hSw; (try dsimp only at hSw); go_simp; (try with_reducible rfl)
          try simp only [Act.put, List.setIfInBounds_toArray, List.set_cons_zero, List.set_cons_succ]
          refine wpHT_takeD (i := 12) (d := 50) (v := ?_) (by kernel_rfl) rfl rfl (by decide) (by kernel_rfl) (by kernel_rfl) (fun _ _ _ h => h) (Or.inl ⟨by kernel_rfl, ?_⟩) (by assumption) ?_
          rotate_left
          · intro w hSw; (try dsimp only at hSw); go_simp; (try with_reducible rfl)
          try simp only [Act.put, List.setIfInBounds_toArray, List.set_cons_zero, List.set_cons_succ]
          refine wpHT_takeD (i := 13) (d := 51) (v := ?_) (by kernel_rfl) rfl rfl (by decide) (by kernel_rfl) (by kernel_rfl) (fun _ _ _ h => h) (Or.inl ⟨by kernel_rfl, ?_⟩) (by assumption) ?_
          rotate_left
          · intro w hSw; (try dsimp only at hSw); go_simp; (try with_reducible rfl)
          try simp only [Act.put, List.setIfInBounds_toArray, List.set_cons_zero, List.set_cons_succ]
          refine wpHT_takeD (i := 14) (d := 52) (v := ?_) (by kernel_rfl) rfl rfl (by decide) (by kernel_rfl) (by kernel_rfl) (fun _ _ _ h => h) (Or.inl ⟨by kernel_rfl, ?_⟩) (by assumption) ?_
          rotate_left
          · intro w hSw; (try dsimp only at hSw); go_simp; (try with_reducible rfl)
          try simp only [Act.put, List.setIfInBounds_toArray, List.set_cons_zero, List.set_cons_succ]
          refine wpHT_one (i := 15) (by kernel_rfl) rfl (by decide) (fun K hK => ?_)
          go_simp
          go_at_call 29
          refine (copyBytes_any _ _ _ D _ (HRD.out.below ((Below.refl _ w1).drew)) (by omega)).mono ?_
          rintro e W1 ⟨v39, rfl, ho, hb⟩
          have hb1 : Below w1.heap.size w1 W1 := ((Below.refl _ w1).drew).trans hb
          have ho1 : Own8 W1 w1.heap.size 5 v39 D := ho
          have HO1 := Lib.hid ho1
          have HB1 := Lib.hid hb1
          have hfz : W1.frozen? ⟨b, k * 3 + 1, none⟩ = false := ((Fr.of_new (S := fun _ => False) hb1).frozen (p := ⟨b, k * 3 + 1, none⟩) HBW.out (fun h => h)).trans HV3.out
          have HC2 := Lib.hid (cell_below c0 hb1)
          have k0 := cell_below c0 hb1
          have k1 := cell_below v1 hb1
          obtain ⟨a2, cap2, rfl, hr2⟩ := ho1.rd
          have HR2 := Lib.hid hr2
          clear ho hb ho1 hb1 hr2
          refine hK.out _ _ ?_ (fun hHeld => ?_)
          · exact ⟨k0, k1⟩
          clear hK K
          try simp only [Act.put, List.setIfInBounds_toArray, List.set_cons_zero, List.set_cons_succ]
          refine wpHT_takeD (i := 16) (d := 54) (v := ?_) (by kernel_rfl) rfl rfl (by decide) (by kernel_rfl) (by kernel_rfl) (fun _ _ _ h => h) (Or.inl ⟨by kernel_rfl, ?_⟩) (by assumption) ?_
          rotate_left
          · intro w hSw; (try dsimp only at hSw); go_simp; (try with_reducible rfl)
          try simp only [Act.put, List.setIfInBounds_toArray, List.set_cons_zero, List.set_cons_succ]
          refine wpHT_takeD (i := 17) (d := 55) (v := ?_) (by kernel_rfl) rfl rfl (by decide) (by kernel_rfl) (by kernel_rfl) (fun _ _ _ h => h) (Or.inl ⟨by kernel_rfl, ?_⟩) (by assumption) ?_
          rotate_left
          · intro w hSw; (try dsimp only at hSw); go_simp; (try with_reducible rfl)
          try simp only [Act.put, List.setIfInBounds_toArray, List.set_cons_zero, List.set_cons_succ]
          refine wpHT_done (by kernel_rfl) ?_
          simp only [List.drop_succ_cons, List.drop_zero]
          go_wp2_with fail
          have hG : Rf W1 c (Sx S w1 W1) s1 := (HR1.out.below HB1.out).grow (fun q hq => .inl hq) (fun q hq => hq.elim (fun h => Nat.lt_of_lt_of_le (HS1.out q h) HB1.out.size) (fun h => h.2))
          have hset := hG.setD HFK.out HC2.out HR2.out (fun _ q hq => by
            have h1 := World.ownsRow.lt HO1.out q (by rw [ownBlock_sl]; exact hq)
            have h2 := HS1.out c HIN.out
            have h3 := HBW.out
            exact ⟨.inr h1, by omega, by omega⟩)
          have hfr : Fr S w (W1.setCell ⟨b, k * 3 + 1, none⟩ (.slice a2 D.length cap2)) := HF1.out.trans ((Fr.of_new (S := S) HB1.out).setCell (fun _ => HSB.out) _)
          obtain ⟨W2, hW2⟩ : ∃ W2, W1.setCell ⟨b, k * 3 + 1, none⟩ (.slice a2 D.length cap2) = W2 := ⟨_, rfl⟩
          have hsz2 : W2.heap.size = W1.heap.size := by rw [← hW2]; exact size_setCell _ _ _
          rw [hW2] at hset hfr
          rw [hW2]
          clear hG HC0 HSB HO1 HR2 HC2 hW2 c0 v1 k0 k1 hfz hHeld
          obtain ⟨b', cap2', aj', cj', hc2, v0, v1, v2, v3, v4, v5, v6, v7, v8⟩ := hset.view (get_set_self HFK.out)
          have hlen2 : (s1.fs.set k ⟨f.nm, D, f.sf⟩).length = m := by rw [List.length_set, HM1.out]
          have hc2 : W2.heap[c]? = some (.cells #[.slice (some ⟨b', 0, none⟩) m cap2', .bool s1.dn, .int .i64 s1.ar, .int .i64 s1.wr] 51 (0, 0)) := by rw [← hlen2]; exact hc2
          have c0 := cell_of_row W2 c 0 _ _ _ hc2
          have hsf : f.sf ≤ 9223372036854775807 := by omega
          have HSET := Lib.hid hset
          have HFR := Lib.hid hfr
          have HC0 := Lib.hid c0
          have HSB := Lib.hid v8
          have HSZ2 := Lib.hid hsz2
          clear hset hfr hc2 v0 v1 v3 v5 v6 v7 v8 hlen2 hsz2
          refine wp_region_ht 17 (fun W => W.cell? ⟨c, 0, none⟩ = some (.slice (some ⟨b', 0, none⟩) m cap2') ∧ W.cell? ⟨b', k * 3 + 2, none⟩ = some (.int .i64 (f.sf : Nat))) (by kernel_rfl) (by kernel_rfl) ?_ (fun hHeld => ?_)
          · exact ⟨c0, v2⟩
          try simp only [Act.put, List.setIfInBounds_toArray, List.set_cons_zero, List.set_cons_succ]
          refine wpHT_takeD (i := 0) (d := 56) (v := ?_) (by kernel_rfl) rfl rfl (by decide) (by kernel_rfl) (by kernel_rfl) (fun _ _ _ h => h) (Or.inl ⟨by kernel_rfl, ?_⟩) (by assumption) ?_
          rotate_left
          · intro w hSw; (try dsimp only at hSw); go_simp; (try with_reducible rfl)
          try simp only [Act.put, List.setIfInBounds_toArray, List.set_cons_zero, List.set_cons_succ]
          refine wpHT_takeD (i := 1) (d := 57) (v := ?_) (by kernel_rfl) rfl rfl (by decide) (by kernel_rfl) (by kernel_rfl) (fun _ _ _ h => h) (Or.inl ⟨by kernel_rfl, ?_⟩) (by assumption) ?_
          rotate_left
          · intro w hSw; (try dsimp only at hSw); go_simp; (try with_reducible rfl)
          try simp only [Act.put, List.setIfInBounds_toArray, List.set_cons_zero, List.set_cons_succ]
          refine wpHT_takeD (i := 2) (d := 58) (v := ?_) (by kernel_rfl) rfl rfl (by decide) (by kernel_rfl) (by kernel_rfl) (fun _ _ _ h => h) (Or.inl ⟨by kernel_rfl, ?_⟩) (by assumption) ?_
          rotate_left
          · intro w hSw; (try dsimp only at hSw); go_simp; (try with_reducible rfl)
          try simp only [Act.put, List.setIfInBounds_toArray, List.set_cons_zero, List.set_cons_succ]
          refine wpHT_takeD (i := 3) (d := 59) (v := ?_) (by kernel_rfl) rfl rfl (by decide) (by kernel_rfl) (by kernel_rfl) (fun _ _ _ h => h) (Or.inl ⟨by kernel_rfl, ?_⟩) (by assumption) ?_
          rotate_left
          · intro w hSw; (try dsimp only at hSw); go_simp; (try with_reducible rfl)
          try simp only [Act.put, List.setIfInBounds_toArray, List.set_cons_zero, List.set_cons_succ]
          refine wpHT_takeD (i := 4) (d := 60) (v := ?_) (by kernel_rfl) rfl rfl (by decide) (by kernel_rfl) (by kernel_rfl) (fun _ _ _ h => h) (Or.inl ⟨by kernel_rfl, ?_⟩) (by assumption) ?_
          rotate_left
          · intro w hSw; (try dsimp only at hSw); go_simp; (try with_reducible rfl)
          try simp only [Act.put, List.setIfInBounds_toArray, List.set_cons_zero, List.set_cons_succ]
          refine wpHT_takeD (i := 5) (d := 61) (v := ?_) (by kernel_rfl) rfl rfl (by decide) (by kernel_rfl) (by kernel_rfl) (fun _ _ _ h => h) (Or.inl ⟨by kernel_rfl, ?_⟩) (by assumption) ?_
          rotate_left
          · intro w hSw; (try dsimp only at hSw); go_simp; (try with_reducible rfl)
          try simp only [Act.put, List.setIfInBounds_toArray, List.set_cons_zero, List.set_cons_succ]
          refine wpHT_takeD (i := 6) (d := 62) (v := ?_) (by kernel_rfl) rfl rfl (by decide) (by kernel_rfl) (by kernel_rfl) (fun _ _ _ h => h) (Or.inl ⟨by kernel_rfl, ?_⟩) (by assumption) ?_
          rotate_left
          · intro w hSw; (try dsimp only at hSw); go_simp; (try with_reducible rfl)
          try simp only [Act.put, List.setIfInBounds_toArray, List.set_cons_zero, List.set_cons_succ]
          refine wpHT_takeD (i := 7) (d := 63) (v := ?_) (by kernel_rfl) rfl rfl (by decide) (by kernel_rfl) (by kernel_rfl) (fun _ _ _ h => h) (Or.inl ⟨by kernel_rfl, ?_⟩) (by assumption) ?_
          rotate_left
          · intro w hSw; (try dsimp only at hSw); go_simp; (try with_reducible rfl)
          try simp only [Act.put, List.setIfInBounds_toArray, List.set_cons_zero, List.set_cons_succ]
          refine wpHT_takeD (i := 8) (d := 64) (v := ?_) (by kernel_rfl) rfl rfl (by decide) (by kernel_rfl) (by kernel_rfl) (fun _ _ _ h => h) (Or.inl ⟨by kernel_rfl, ?_⟩) (by assumption) ?_
          rotate_left
          · intro w hSw; (try dsimp only at hSw); go_simp; (try with_reducible rfl)
          try simp only [Act.put, List.setIfInBounds_toArray, List.set_cons_zero, List.set_cons_succ]
          refine wpHT_takeD (i := 9) (d := 65) (v := ?_) (by kernel_rfl) rfl rfl (by decide) (by kernel_rfl) (by kernel_rfl) (fun _ _ _ h => h) (Or.inl ⟨by kernel_rfl, ?_⟩) (by assumption) ?_
          rotate_left
          · intro w hSw; (try dsimp only at hSw); go_simp; (try with_reducible rfl)
          try simp only [Act.put, List.setIfInBounds_toArray, List.set_cons_zero, List.set_cons_succ]
          refine wpHT_takeD (i := 10) (d := 66) (v := ?_) (by kernel_rfl) rfl rfl (by decide) (by kernel_rfl) (by kernel_rfl) (fun _ _ _ h => h) (Or.inl ⟨by kernel_rfl, ?_⟩) (by assumption) ?_
          rotate_left
          · intro w hSw; (try dsimp only at hSw); go_simp; (try with_reducible rfl)
          try simp only [Act.put, List.setIfInBounds_toArray, List.set_cons_zero, List.set_cons_succ]
          refine wpHT_takeD (i := 11) (d := 67) (v := ?_) (by kernel_rfl) rfl rfl (by decide) (by kernel_rfl) (by kernel_rfl) (fun _ _ _ h => h) (Or.inl ⟨by kernel_rfl, ?_⟩) (by assumption) ?_
          rotate_left
          · intro w hSw; (try dsimp only at hSw); go_simp; (try with_reducible rfl)
          try simp only [Act.put, List.setIfInBounds_toArray, List.set_cons_zero, List.set_cons_succ]
          refine wpHT_takeD (i := 12) (d := 68) (v := ?_) (by kernel_rfl) rfl rfl (by decide) (by kernel_rfl) (by kernel_rfl) (fun _ _ _ h => h) (Or.inl ⟨by kernel_rfl, ?_⟩) (by assumption) ?_
          rotate_left
          · intro w hSw; (try dsimp only at hSw); go_simp; (try with_reducible rfl)
          try simp only [Act.put, List.setIfInBounds_toArray, List.set_cons_zero, List.set_cons_succ]
          refine wpHT_takeD (i := 13) (d := 69) (v := ?_) (by kernel_rfl) rfl rfl (by decide) (by kernel_rfl) (by kernel_rfl) (fun _ _ _ h => h) (Or.inl ⟨by kernel_rfl, ?_⟩) (by assumption) ?_
          rotate_left
          · intro w hSw; (try dsimp only at hSw); go_simp; (try with_reducible rfl)
          try simp only [Act.put, List.setIfInBounds_toArray, List.set_cons_zero, List.set_cons_succ]
          refine wpHT_takeD (i := 14) (d := 70) (v := ?_) (by kernel_rfl) rfl rfl (by decide) (by kernel_rfl) (by kernel_rfl) (fun _ _ _ h => h) (Or.inl ⟨by kernel_rfl, ?_⟩) (by assumption) ?_
          rotate_left
          · intro w hSw; (try dsimp only at hSw); go_simp; (try with_reducible rfl)
          try simp only [Act.put, List.setIfInBounds_toArray, List.set_cons_zero, List.set_cons_succ]
          refine wpHT_takeD (i := 15) (d := 71) (v := ?_) (by kernel_rfl) rfl rfl (by decide) (by kernel_rfl) (by kernel_rfl) (fun _ _ _ h => h) (Or.inl ⟨by kernel_rfl, ?_⟩) (by assumption) ?_
          rotate_left
          · intro w hSw; (try dsimp only at hSw); go_simp; (try with_reducible rfl)
          try simp only [Act.put, List.setIfInBounds_toArray, List.set_cons_zero, List.set_cons_succ]
          refine wpHT_takeD (i := 16) (d := 72) (v := ?_) (by kernel_rfl) rfl rfl (by decide) (by kernel_rfl) (by kernel_rfl) (fun _ _ _ h => h) (Or.inl ⟨by kernel_rfl, ?_⟩) (by assumption) ?_
          rotate_left
          · intro w hSw; (try dsimp only at hSw); go_simp; (try with_reducible rfl)
          try simp only [Act.put, List.setIfInBounds_toArray, List.set_cons_zero, List.set_cons_succ]
          refine wpHT_done (by kernel_rfl) ?_
          simp only [List.drop_succ_cons, List.drop_zero]
          go_wp2_with fail
          go_ret
          have hmin : ((min f.sf K : Nat) : Int) = min (f.sf : Int) (K : Int) := by omega
          have hset2 := (HSET.out.drew).setS (get_set_self HFK.out) HC0.out (min f.sf K)
          rw [hmin] at hset2
          have hfr2 : Fr S w (W2.drew.setCell ⟨b', k * 3 + 2, none⟩ (.int .i64 (min (f.sf : Int) (K : Int)))) := by
            have h1 := HFR.out.drew
            have h2 : Fr (Sx S w1 W1) W2.drew (W2.drew.setCell ⟨b', k * 3 + 2, none⟩ (.int .i64 (min (f.sf : Int) (K : Int)))) := (Fr.refl _ W2.drew).setCell (fun _ => HSB.out) _
            refine h1.trans' h2 (fun _ _ h => h) (fun q hq h => ?_)
            rcases h with h | h
            · exact h
            · have := HF1.out.size; omega
          refine RTold.at (by rw [hres.out]; rfl) hset2 (by rw [hres.out, List.set_set]) (fun q hq => ?_) hfr2 HS.out
          rcases hq with hq | hq
          · exact .inl hq
          · refine .inr ⟨Nat.le_trans HF1.out.size hq.1, ?_⟩
            show q < (W2.drew.setCell _ _).heap.size
            have := HSZ2.out
            have e : (W2.drew.setCell ⟨b', k * 3 + 2, none⟩ (.int .i64 (min (f.sf : Int) (K : Int)))).heap.size = W2.heap.size := size_setCell W2.drew _ _
            rw [e, this]; exact hq.2
    · rw [hat] at HAT
      have hres : Hid (cutS s n N = (s, 8)) := by
        have : cutE s n N = 8 := by unfold cutE; rw [hg]
        unfold cutS; rw [this]; exact errW_err hdn (by decide)
      clear hr hdn h hg hat
      go_enter Try.func48, Try.ntmps48
      go_wp2_with (go_at_call 56; ((with_reducible refine (HAT.out).mono ?_); rintro e w1 ⟨rfl, rfl⟩))
      go_ret
      exact RTold.same (by rw [hres.out]; rfl) HRF.out (by rw [hres.out]) (Fr.refl _ _) HS.out
end Go.Proofs.Ytdbfkneklkdnaaa
