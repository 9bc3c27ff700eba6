/-
  The reference's disk: Rename.
-/
import Derived.Test.YtdbfkneklkdnaaaE37
namespace Go.Proofs.Ytdbfkneklkdnaaa
open Go.RowKit Go.Maps Go.Sort
set_option maxRecDepth 100000
attribute [local go_sem] bs_size bs_toList

set_option maxHeartbeats 4000000 in
theorem rrename_any (c : Nat) (S : Nat → Prop) (B : Int) (hB : B ≤ 1000000000000) (s : DS) (n tn : List UInt8) (htl : tn.length ≤ 9223372036854775807) (hok : DOk B s) (w : World) (h : Rf w c S s) :
    Calls Try.prog 49 #[.pointer (some ⟨c, 0, none⟩), .string (bs n), .string (bs tn)] w (RTold w c S (renameS s n tn)) := by
  have HS := Lib.hid h.lt
  have HIN := Lib.hid h.in
  have HRF := Lib.hid h
  have hlen := hok.len
  have HAT := Lib.hid (at_any c S s n hok.len w h)
  have HNM := Lib.hid (rname_any tn htl w)
  obtain ⟨a, cap, c0, c1, c2, c3, hr⟩ := h.row
  cases hdn : s.dn with
  | true =>
    rw [hdn] at c1
    have hres : Hid (renameS s n tn = (s, 12)) := errW_dn hdn
    clear hr hdn h
    go_enter Try.func49, Try.ntmps49
    go_wp2_with (go_at_call 56; ((with_reducible refine (HAT.out).mono ?_); rintro e w1 ⟨rfl, rfl⟩))
    go_ret
    exact RTold.same (by rw [hres.out]; rfl) HRF.out (by rw [hres.out]) (Fr.refl _ _) HS.out
  | false =>
    rw [hdn] at c1
    rcases atI_get (n := n) (l := s.fs) with ⟨f, k, hg, hf, hk, hat⟩ | ⟨hg, hat⟩
    · rw [hat] at HAT
      cases hnm : nameOk tn with
      | false =>
        have hres : Hid (renameS s n tn = (s, 10)) := by
          have : renE s n tn = 10 := by unfold renE; rw [hg, hnm]; rfl
          unfold renameS; rw [this]; exact errW_err hdn (by decide)
        rw [hnm] at HNM
        obtain ⟨m, hm⟩ : ∃ m, s.fs.length = m := ⟨_, rfl⟩
        rw [hm] at c0 hlen hk
        clear hr hdn h hg hf hat hm hnm
        go_enter Try.func49, Try.ntmps49
        go_wp2_with (first | (go_at_call 56; ((with_reducible refine (HAT.out).mono ?_); rintro e w1 ⟨rfl, rfl⟩)) | (go_at_call 57; ((with_reducible refine (HNM.out).mono ?_); rintro e w1 ⟨rfl, rfl⟩)))
        go_ret
        exact RTold.same (by rw [hres.out]; rfl) HRF.out (by rw [hres.out]) (Fr.refl _ _) HS.out
      | true =>
      rw [hnm] at HNM
      have he : renE s n tn = 0 := by unfold renE; rw [hg, hnm]; rfl
      obtain ⟨s1, hs1⟩ : ∃ s1, (fallS s).1 = s1 := ⟨_, rfl⟩
      have hfs1 : s1.fs = s.fs := by rw [← hs1]; exact fallS_fs s
      cases hfb : (fallS s).2 with
      | true =>
        have HFA := Lib.hid (falls_out hB hok hdn h hfb hs1)
        have hres : Hid (renameS s n tn = (s1, 12)) := by unfold renameS; rw [he, ← hs1]; exact errW_fall hdn rfl hfb
        obtain ⟨m, hm⟩ : ∃ m, s.fs.length = m := ⟨_, rfl⟩
        rw [hm] at c0 hlen hk
        clear hr hdn h hg hf hat hm hfb hs1 hfs1 he hnm
        go_enter Try.func49, Try.ntmps49
        go_wp2_with (first | (go_at_call 56; ((with_reducible refine (HAT.out).mono ?_); rintro e w1 ⟨rfl, rfl⟩)) | (go_at_call 57; ((with_reducible refine (HNM.out).mono ?_); rintro e w1 ⟨rfl, rfl⟩)) | (go_at_call 66; ((with_reducible refine (HFA.out).mono ?_); rintro e w1 ⟨rfl, hr1, hf1⟩; have HR1 := Lib.hid hr1; have HF1 := Lib.hid hf1; clear hr1 hf1)))
        go_ret
        exact RTold.same (by rw [hres.out]; rfl) HR1.out (by rw [hres.out]) (HF1.out.one HIN.out) HS.out
      | false =>
        have HFA := Lib.hid (falls_out hB hok hdn h hfb hs1)
        have hfn := (getF_some hg).2
        have hres0 : renameS s n tn = ({ s1 with fs := renL n tn s1.fs }, 0) := by
          unfold renameS; rw [he, errW_ok hdn rfl hfb, hs1]
        by_cases hsame : n = tn
        · have hres : Hid (renameS s n tn = (s1, 0)) := by
            show _ = _
            rw [hres0]
            unfold renL
            rw [hfs1, hg]
            simp only [if_pos hsame]
            rw [← hfs1]
          have d1 : (n == tn) = true := by simpa using hsame
          obtain ⟨m, hm⟩ : ∃ m, s.fs.length = m := ⟨_, rfl⟩
          rw [hm] at c0 hlen hk
          clear hr hdn h hg hf hat hm hfb hs1 hfs1 he hnm hsame hres0 hfn
          go_enter Try.func49, Try.ntmps49
          go_wp2_with (first | (go_at_call 56; ((with_reducible refine (HAT.out).mono ?_); rintro e w1 ⟨rfl, rfl⟩)) | (go_at_call 57; ((with_reducible refine (HNM.out).mono ?_); rintro e w1 ⟨rfl, rfl⟩)) | (go_at_call 66; ((with_reducible refine (HFA.out).mono ?_); rintro e w1 ⟨rfl, hr1, hf1⟩; have HR1 := Lib.hid hr1; have HF1 := Lib.hid hf1; clear hr1 hf1)))
          go_ret
          exact RTold.same (by rw [hres.out]; rfl) HR1.out (by rw [hres.out]) (HF1.out.one HIN.out) HS.out
        · have d1 : (n == tn) = false := by simpa using hsame
          have hf1 : s1.fs[k]? = some f := by rw [hfs1]; exact hf
          have hm1 : ∃ m, s1.fs.length = m := ⟨_, rfl⟩
          obtain ⟨m, hm1⟩ := hm1
          have hm : s.fs.length = m := by rw [← hfs1]; exact hm1
          rw [hm] at c0 hlen hk
          have HFK := Lib.hid hf1
          have HM1 := Lib.hid hm1
          have HOK := Lib.hid hok
          have HG := Lib.hid hg
          have HFS1 := Lib.hid hfs1
          have HFN := Lib.hid hfn
          have HSAME := Lib.hid hsame
          have HRES := Lib.hid hres0
          clear hr hdn h hg hf hat hm hfb hs1 hfs1 he hnm hsame hres0 hfn hf1 hm1 hok
          go_enter Try.func49, Try.ntmps49
          go_wp2_with (first | (go_at_call 56; ((with_reducible refine (HAT.out).mono ?_); rintro e w1 ⟨rfl, rfl⟩)) | (go_at_call 57; ((with_reducible refine (HNM.out).mono ?_); rintro e w1 ⟨rfl, rfl⟩)))
          go_at_call 66
          refine (HFA.out).mono ?_
          rintro e w1 ⟨rfl, hr1, hf1⟩
          clear c0 c1 c2 c3
          obtain ⟨b, cap1, aj, cj, hc1, v0, v1, v2, v3, v4, v5, v6, v7, v8⟩ := hr1.view HFK.out
          rw [HM1.out] at hc1
          have c0 := cell_of_row w1 c 0 _ _ _ hc1
          have HR1 := Lib.hid hr1
          have HF1 := Lib.hid (hf1.one HIN.out)
          have H8 := Lib.hid v5
          have HBL := Lib.hid v6
          clear hr1 hf1 hc1 v3 v4 v5 v6 v7 v8
          go_wp2_with fail
          obtain ⟨W, hW, hbw, hsz, g0, g1, g2⟩ := fileAt w1 ⟨tn, f.dt, f.sf⟩ (.slice aj f.dt.length cj)
          have hW' : w1.alloc (.cells #[.string (bs tn), .slice aj f.dt.length cj, .int .i64 (f.sf : Nat)] 43) = W := hW.symm
          rw [hW']
          have HRW := Lib.hid (HR1.out.below hbw)
          have HBW := Lib.hid hbw
          have HSZ := Lib.hid hsz
          have HD := Lib.hid (drop_any_ c S s1 k (by rw [HM1.out]; omega) (by rw [HM1.out]; exact hk) W HRW.out)
          obtain ⟨L2, hL2⟩ : ∃ L2, s1.fs.take k ++ s1.fs.drop (k + 1) = L2 := ⟨_, rfl⟩
          have hdel : delF n s.fs = L2 := by
            have := del_split HOK.out.srt (by rw [← HFS1.out]; exact HFK.out)
            rw [HFN.out] at this
            rw [this, ← hL2, HFS1.out]
          rw [hL2] at HD
          have HDEL := Lib.hid hdel
          clear hW hW' hbw hsz hL2 hdel v0 v1 v2 c0
          go_at_call 67
          refine (HD.out).mono ?_
          rintro e w2 ⟨rfl, hr2, hf2⟩
          have hcw : c < w1.heap.size := HR1.out.lt c HIN.out
          have hnb : w1.heap.size < W.heap.size := by have := HSZ.out; omega
          have hne : w1.heap.size ≠ c := by omega
          have g0 : w2.cell? ⟨w1.heap.size, 0, none⟩ = some (.string (bs tn)) := (hf2.cell (p := ⟨w1.heap.size, 0, none⟩) hnb hne).trans g0
          have g1 : w2.cell? ⟨w1.heap.size, 1, none⟩ = some (.slice aj f.dt.length cj) := (hf2.cell (p := ⟨w1.heap.size, 1, none⟩) hnb hne).trans g1
          have g2 : w2.cell? ⟨w1.heap.size, 2, none⟩ = some (.int .i64 (f.sf : Nat)) := (hf2.cell (p := ⟨w1.heap.size, 2, none⟩) hnb hne).trans g2
          have hl2 : L2.length ≤ 64 := by rw [← HDEL.out]; exact Nat.le_trans (List.length_filter_le _ _) HOK.out.len
          have hfr2 : Fr S w w2 := (HF1.out.trans (Fr.of_new HBW.out)).trans (hf2.one HIN.out)
          have hss2 : ∀ q, Sx S W w2 q → Sx S w w2 q := fun q hq => hq.elim .inl fun h => .inr ⟨Nat.le_trans (HF1.out.trans (Fr.of_new (S := S) HBW.out)).size h.1, h.2⟩
          have h82 : Rd8 w2 aj f.dt.length cj f.dt := (H8.out.below HBW.out).keep0 hf2 fun h0 q hq => (HBL.out h0 q hq).2.1
          have HAT2 := Lib.hid (at_any c (Sx S W w2) { s1 with fs := L2 } tn hl2 w2 hr2)
          have HR2 := Lib.hid hr2
          have HFR2 := Lib.hid hfr2
          have HSS2 := Lib.hid hss2
          have H82 := Lib.hid h82
          have HNB : Hid (w1.heap.size < w2.heap.size) := Nat.lt_of_lt_of_le hnb hf2.size
          have HNC := Lib.hid hne
          have HL2 := Lib.hid hl2
          clear hr2 hf2 hcw hnb hne hl2 hfr2 hss2 h82 HAT HNM HFA HRF HD HRW
          rcases atI_get (n := tn) (l := L2) with ⟨f3, k3, hg3, hf3, hk3, hat3⟩ | ⟨hg3, hat3⟩
          · rw [hat3] at HAT2
            have HD3 := Lib.hid (drop_any_ c (Sx S W w2) { s1 with fs := L2 } k3 (by show L2.length ≤ 100000; have := HL2.out; omega) hk3 w2 HR2.out)
            obtain ⟨L3, hL3⟩ : ∃ L3, L2.take k3 ++ L2.drop (k3 + 1) = L3 := ⟨_, rfl⟩
            have hd3 : delF tn (delF n s.fs) = L3 := by
              rw [HDEL.out, ← hL3, ← (getF_some hg3).2]
              exact del_split (by rw [← HDEL.out]; exact srt_del HOK.out.srt n) hf3
            have hHD3 : Calls Try.prog 67 #[.pointer (some ⟨c, 0, none⟩), .int .i64 (k3 : Nat)] w2 (RPost w2 c (Sx S W w2) { s1 with fs := L3 }) := by rw [← hL3]; exact HD3.out
            have HD4 := Lib.hid hHD3
            have HREN : Hid (renL n tn s1.fs = insF ⟨tn, f.dt, f.sf⟩ L3) := by
              show _ = _
              unfold renL
              rw [HFS1.out, HG.out]
              simp only [if_neg HSAME.out]
              rw [hd3]
            have HNE : Hid (∀ g ∈ L3, g.nm ≠ tn) := fun g hg => by rw [← hd3] at hg; exact (mem_del.1 hg).2
            have HL3 : Hid (L3.length ≤ 100000) := by
              show _ ≤ _
              rw [← hd3]
              have h1 : (delF tn (delF n s.fs)).length ≤ (delF n s.fs).length := List.length_filter_le _ _
              have h2 : (delF n s.fs).length ≤ s.fs.length := List.length_filter_le _ _
              have := HOK.out.len
              omega
            clear hg3 hf3 hat3 hL3 hd3 HD3 hHD3 hk3
            go_wp2_with (first | (go_at_call 56; ((with_reducible refine (HAT2.out).mono ?_); rintro e wx ⟨rfl, rfl⟩)))
            go_at_call 67
            refine (HD4.out).mono ?_
            rintro e w3 ⟨rfl, hr3, hf3⟩
            have g0 : w3.cell? ⟨w1.heap.size, 0, none⟩ = some (.string (bs tn)) := (hf3.cell (p := ⟨w1.heap.size, 0, none⟩) HNB.out HNC.out).trans g0
            have g1 : w3.cell? ⟨w1.heap.size, 1, none⟩ = some (.slice aj f.dt.length cj) := (hf3.cell (p := ⟨w1.heap.size, 1, none⟩) HNB.out HNC.out).trans g1
            have g2 : w3.cell? ⟨w1.heap.size, 2, none⟩ = some (.int .i64 (f.sf : Nat)) := (hf3.cell (p := ⟨w1.heap.size, 2, none⟩) HNB.out HNC.out).trans g2
            obtain ⟨S3, hS3⟩ : ∃ S3, Sx (Sx S W w2) w2 w3 = S3 := ⟨_, rfl⟩
            have hr3 : Rf w3 c S3 { s1 with fs := L3 } := by rw [← hS3]; exact hr3
            have HR3 := Lib.hid hr3
            have HFR3 : Hid (Fr S w w3) := HFR2.out.trans (hf3.one HIN.out)
            have HSS3 : Hid (∀ q, S3 q → Sx S w w3 q) := fun q hq => by
              have hz := hf3.size
              have hz2 := HFR2.out.size
              rw [← hS3] at hq
              rcases hq with hq | hq
              · rcases HSS2.out q hq with h | h
                · exact .inl h
                · exact .inr ⟨h.1, by omega⟩
              · exact .inr ⟨by omega, hq.2⟩
            have H83 : Hid (Rd8 w3 aj f.dt.length cj f.dt) := H82.out.keep0 hf3 fun h0 q hq => (HBL.out h0 q hq).2.1
            have HB3 : Hid (BlkIn aj f.dt.length fun q => S3 q ∧ q ≠ c) := fun h0 q hq => ⟨by rw [← hS3]; exact .inl (.inl (HBL.out h0 q hq).1), (HBL.out h0 q hq).2.1⟩
            clear hr3 hf3 hS3 HAT2 HD4 HR2 HFR2 HSS2 H82
            have HP := Lib.hid (put_any c S3 { s1 with fs := L3 } ⟨tn, f.dt, f.sf⟩ aj cj (by show L3.length ≤ 100000; exact HL3.out) (by intro g hg; exact HNE.out g hg) w3 HR3.out H83.out HB3.out)
            go_wp2_with fail
            go_at_call 58
            refine (HP.out).mono ?_
            rintro e w4 ⟨rfl, hr4, hf4⟩
            have hfr4 : Fr S w w4 := HFR3.out.trans (hf4.one HIN.out)
            have HR4 := Lib.hid hr4
            have HFR4 := Lib.hid hfr4
            have HSZ4 : Hid (w3.heap.size ≤ w4.heap.size) := hf4.size
            clear hr4 hf4 hfr4
            go_wp2
            go_ret
            refine RTold.at (by rw [HRES.out]; rfl) HR4.out (by rw [HRES.out, HREN.out]) (fun q hq => ?_) HFR4.out HS.out
            have hz1 := HFR3.out.size
            have hz2 := HSZ4.out
            rcases hq with hq | hq
            · rcases HSS3.out q hq with hq | hq
              · exact .inl hq
              · exact .inr ⟨hq.1, by omega⟩
            · exact .inr ⟨by omega, hq.2⟩
          · rw [hat3] at HAT2
            obtain ⟨L3, hL3⟩ : ∃ L3, L2 = L3 := ⟨_, rfl⟩
            have hd3 : delF tn (delF n s.fs) = L3 := by rw [HDEL.out, ← hL3]; exact del_none hg3
            have HREN : Hid (renL n tn s1.fs = insF ⟨tn, f.dt, f.sf⟩ L3) := by
              show _ = _
              unfold renL
              rw [HFS1.out, HG.out]
              simp only [if_neg HSAME.out]
              rw [hd3]
            have HNE : Hid (∀ g ∈ L3, g.nm ≠ tn) := fun g hg => by rw [← hd3] at hg; exact (mem_del.1 hg).2
            have HL3 : Hid (L3.length ≤ 100000) := by show _ ≤ _; rw [← hL3]; have := HL2.out; omega
            obtain ⟨w3, hw3⟩ : ∃ w3, w2 = w3 := ⟨_, rfl⟩
            obtain ⟨S3, hS3⟩ : ∃ S3, Sx S W w2 = S3 := ⟨_, rfl⟩
            have HR3 : Hid (Rf w3 c S3 { s1 with fs := L3 }) := by show Rf _ _ _ _; rw [← hS3, ← hw3, ← hL3]; exact HR2.out
            have HFR3 : Hid (Fr S w w3) := by show Fr _ _ _; rw [← hw3]; exact HFR2.out
            have HSS3 : Hid (∀ q, S3 q → Sx S w w3 q) := by intro q hq; rw [← hS3] at hq; rw [← hw3]; exact HSS2.out q hq
            have H83 : Hid (Rd8 w3 aj f.dt.length cj f.dt) := by show Rd8 _ _ _ _ _; rw [← hw3]; exact H82.out
            have HB3 : Hid (BlkIn aj f.dt.length fun q => S3 q ∧ q ≠ c) := fun h0 q hq => ⟨by rw [← hS3]; exact .inl (HBL.out h0 q hq).1, (HBL.out h0 q hq).2.1⟩
            clear hg3 hat3 hd3 hL3 hS3
            subst hw3
            clear HR2 HFR2 HSS2 H82
            go_wp2_with (first | (go_at_call 56; ((with_reducible refine (HAT2.out).mono ?_); rintro e wx ⟨rfl, rfl⟩)))
            have HP := Lib.hid (put_any c S3 { s1 with fs := L3 } ⟨tn, f.dt, f.sf⟩ aj cj (by show L3.length ≤ 100000; exact HL3.out) (by intro g hg; exact HNE.out g hg) w2 HR3.out H83.out HB3.out)
            go_wp2_with fail
            go_at_call 58
            refine (HP.out).mono ?_
            rintro e w4 ⟨rfl, hr4, hf4⟩
            have hfr4 : Fr S w w4 := HFR3.out.trans (hf4.one HIN.out)
            have HR4 := Lib.hid hr4
            have HFR4 := Lib.hid hfr4
            have HSZ4 : Hid (w2.heap.size ≤ w4.heap.size) := hf4.size
            clear hr4 hf4 hfr4
            go_wp2
            go_ret
            refine RTold.at (by rw [HRES.out]; rfl) HR4.out (by rw [HRES.out, HREN.out]) (fun q hq => ?_) HFR4.out HS.out
            have hz1 := HFR3.out.size
            have hz2 := HSZ4.out
            rcases hq with hq | hq
            · rcases HSS3.out q hq with hq | hq
              · exact .inl hq
              · exact .inr ⟨hq.1, by omega⟩
            · exact .inr ⟨by omega, hq.2⟩
    · rw [hat] at HAT
      have hres : Hid (renameS s n tn = (s, 8)) := by
        have : renE s n tn = 8 := by unfold renE; rw [hg]; rfl
        unfold renameS; rw [this]; exact errW_err hdn (by decide)
      clear hr hdn h hg hat
      go_enter Try.func49, Try.ntmps49
      go_wp2_with (go_at_call 56; ((with_reducible refine (HAT.out).mono ?_); rintro e w1 ⟨rfl, rfl⟩))
      go_ret
      exact RTold.same (by rw [hres.out]; rfl) HRF.out (by rw [hres.out]) (Fr.refl _ _) HS.out
end Go.Proofs.Ytdbfkneklkdnaaa
