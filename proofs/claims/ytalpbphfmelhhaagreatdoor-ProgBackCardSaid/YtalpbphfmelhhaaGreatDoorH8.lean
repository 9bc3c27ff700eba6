/-
  What is wrong with a program, by the document (raceref9.Check).
-/
import Derived.Test.YtalpbphfmelhhaaGreatDoorHC
namespace Go.Proofs.YtalpbphfmelhhaaGreatDoor
open Go.RowKit Go.Maps Go.Sort
set_option maxRecDepth 100000
attribute [local go_sem] bs_size bs_get bs_toList frombits tobits run_store_float
set_option maxHeartbeats 16000000 in
theorem check9_any (ad : Option Addr) (n cap : Nat) (l : List OpP) (w : World) (h : RdO w ad n cap l) (hn : n ≤ 1000) :
    Calls Tryz.prog 17 #[.slice ad n cap] w (IntPost w (checkP l)) := by
  have H := Lib.hid h
  have HN := Lib.hid h.rd.1
  clear h
  by_cases hlong : 40 < n
  · have hc : checkP l = 3 := by unfold checkP; rw [if_pos (by rw [← HN.out]; exact hlong)]
    have hd : decide (40 < n) = true := decide_eq_true hlong
    have hd' : decide ((40 : Int) < (n : Int)) = true := decide_eq_true (by omega)
    rw [hc]
    clear hc hlong
    go_enter Tryz.func17, Tryz.ntmps17
    go_wp2_with fail
    go_ret
    exact ⟨rfl, Below.refl _ _⟩
  have hd : decide (40 < n) = false := decide_eq_false hlong
  have hd' : decide ((40 : Int) < (n : Int)) = false := decide_eq_false (by omega)
  have HG : Hid (chkGo l 0 ≠ 0 → checkP l = chkGo l 0) := fun h0 => by
    unfold checkP
    rw [if_neg (by rw [← HN.out]; exact hlong), if_pos h0]
  have HZ : Hid (chkGo l 0 = 0 → checkP l = if 16 < (readsP l).length ∨ 16 < (namesP l).length then 3 else 0) := fun h0 => by
    unfold checkP
    rw [if_neg (by rw [← HN.out]; exact hlong), if_neg (fun e => e h0)]
  go_enter Tryz.func17, Tryz.ntmps17
  go_wp2_with fail
  clear hd hd'
  go_loopw [3, 4, 5, 6, 7, 8, 9] (fun hi i _ _ _ _ _ wr => ∃ (k : Nat) (hh : Int), k ≤ n ∧ i = .int .i64 (k : Nat) ∧ hi = .int .i64 hh ∧ 0 ≤ hh ∧ hh ≤ 16 ∧ Hid (chkGo l 0 = chkGo (l.drop k) hh) ∧ Hid (Below w.heap.size w wr)) (fun _ i _ _ _ _ _ _ => n - (intOf i).toNat)
  case atStart => exact ⟨0, 0, Nat.zero_le _, rfl, rfl, Int.le_refl _, by decide, rfl, Below.refl _ _⟩
  case round =>
    obtain ⟨k, hh, hk, rfl, rfl, h0, h1, HC, HB⟩ := hrel
    by_cases hlt : k < n
    · obtain ⟨o, ho⟩ : ∃ o, l[k]? = some o := ⟨_, List.getElem?_eq_getElem (by have := HN.out; omega)⟩
      obtain ⟨bk, off, rfl, c0, c1, c2, c3, c4⟩ := (H.out.below HB.out).at ho
      have hdr : l.drop k = o :: l.drop (k + 1) := by
        obtain ⟨hl, he⟩ := List.getElem?_eq_some_iff.1 ho
        rw [List.drop_eq_getElem_cons hl, he]
      have hch := HC.out
      rw [hdr, chkGo_cons] at hch
      have HCH := Lib.hid hch
      have hba : Below wr.heap.size wr (wr.alloc (.cells #[.int .i64 o.c, .string (bs o.key), .int .i64 o.v.k, .float .f64 (fb o.v.x), .string (bs o.v.s)] 59)) := (Below.refl _ _).alloc (Nat.le_refl _) _
      have hrow := heap_alloc_new wr (.cells #[.int .i64 o.c, .string (bs o.key), .int .i64 o.v.k, .float .f64 (fb o.v.x), .string (bs o.v.s)] 59)
      obtain ⟨X, hX⟩ : ∃ X, wr.alloc (.cells #[.int .i64 o.c, .string (bs o.key), .int .i64 o.v.k, .float .f64 (fb o.v.x), .string (bs o.v.s)] 59) = X := ⟨_, rfl⟩
      rw [hX] at hba hrow
      obtain ⟨pb, hpb⟩ : ∃ pb, wr.heap.size = pb := ⟨_, rfl⟩
      rw [hpb] at hrow
      have HRX : Hid (∀ W, Below X.heap.size X W → W.cell? ⟨pb, 0, none⟩ = some (.int .i64 o.c) ∧ W.cell? ⟨pb, 1, none⟩ = some (.string (bs o.key)) ∧ W.cell? ⟨pb, 2, none⟩ = some (.int .i64 o.v.k) ∧ W.cell? ⟨pb, 3, none⟩ = some (.float .f64 (fb o.v.x)) ∧ W.cell? ⟨pb, 4, none⟩ = some (.string (bs o.v.s))) := fun W hW => by
        have hr := (hW.block pb (Array.getElem?_eq_some_iff.1 hrow).1).trans hrow
        exact ⟨cell_of_row _ _ 0 _ _ _ hr, cell_of_row _ _ 1 _ _ _ hr, cell_of_row _ _ 2 _ _ _ hr, cell_of_row _ _ 3 _ _ _ hr, cell_of_row _ _ 4 _ _ _ hr⟩
      obtain ⟨x0, x1, x2, x3, x4⟩ := HRX.out X (Below.refl _ _)
      have HBX := Lib.hid (next_below' HB.out hba)
      have HKB : Hid (∀ W, Calls Tryz.prog 39 #[.string (bs o.key)] W fun e w' => e = .returned (.bool (keyB o.key)) ∧ w' = W) := fun W => refKey_any o.key W
      have hmy := refMay_any o.v.k o.v.x o.v.s
      unfold VA at hmy
      have HMY : Hid (∀ W, Calls Tryz.prog 33 #[.agg #[.int .i64 o.v.k, .float .f64 (fb o.v.x), .string (bs o.v.s)]] W fun e w' => e = .returned (.bool o.v.may) ∧ Below W.heap.size W w') := fun W => hmy W
      have HNM := Lib.hid (named9_any o.c)
      have HTK := Lib.hid (takes9_any o.c)
      clear hdr hch hba hrow ho hmy
      by_cases hlo : o.c < 1
      · have hco : codeOk o.c = false := by unfold codeOk; simp; omega
        have hres : checkP l = 7 := by
          have h7 : chkGo l 0 = 7 := by rw [HCH.out, if_pos hco]
          rw [HG.out (by rw [h7]; decide), h7]
        have HRS := Lib.hid hres
        clear hco hres
        go_wp2_with fail
        go_ret
        exact ⟨by rw [HRS.out]; rfl, HBX.out⟩
      by_cases hhi : 15 < o.c
      · have hco : codeOk o.c = false := by unfold codeOk; simp; omega
        have hres : checkP l = 7 := by
          have h7 : chkGo l 0 = 7 := by rw [HCH.out, if_pos hco]
          rw [HG.out (by rw [h7]; decide), h7]
        have HRS := Lib.hid hres
        clear hco hres
        go_wp2_with fail
        go_ret
        exact ⟨by rw [HRS.out]; rfl, HBX.out⟩
      have hco : codeOk o.c = true := by unfold codeOk; simp; omega
      have hch2 := HCH.out
      rw [if_neg (by rw [hco]; simp)] at hch2
      have HCH2 := Lib.hid hch2
      have HFO : Hid (formO o = ((if namesC o.c = 1 then keyB o.key else o.key.isEmpty) && (if namesC o.c = 2 then o.v.may else (o.v.may && decide (o.v.k = 0))))) := rfl
      obtain ⟨ht0, ht1⟩ := take_bd o.c
      obtain ⟨hg0, hg1⟩ := give_bd o.c
      obtain ⟨nm, hnm⟩ : ∃ nm, namesC o.c = nm := ⟨_, rfl⟩
      obtain ⟨tk, htk⟩ : ∃ tk, takeC o.c = tk := ⟨_, rfl⟩
      obtain ⟨gv, hgv⟩ : ∃ gv, giveC o.c = gv := ⟨_, rfl⟩
      rw [hnm] at HNM HFO
      rw [htk, hgv] at HTK HCH2
      rw [htk] at ht0 ht1
      rw [hgv] at hg0 hg1
      clear hco hch2 HCH hnm htk hgv
      go_wp2_with fail
      go_at_call 38
      refine (HNM.out _).mono ?_
      rintro e w2 ⟨rfl, rfl⟩
      go_wp2_with fail
      go_at_call 33
      refine (HMY.out _).mono ?_
      rintro e w4 ⟨rfl, hb4⟩
      obtain ⟨x0, x1, x2, x3, x4⟩ := HRX.out w4 hb4
      have HB4X := Lib.hid hb4
      have HB4 := Lib.hid (next_below' HBX.out hb4)
      clear hb4 hX hpb
      by_cases hnn1 : nm = 1
      · subst hnn1
        have hn2 : ¬ ((1 : Int) = 2) := by decide
        cases hmy : o.v.may with
        | true =>
          rw [hmy] at HMY
          cases hke : keyB o.key with
          | true =>
            rw [hke] at HKB
            cases hk0 : (o.v.k == 0) with
            | true =>
              have hkz : o.v.k = 0 := by simpa using hk0
              have hfo : formO o = true := by rw [HFO.out]; simp [hke, hmy, hkz]
              have hch3 := HCH2.out
              rw [if_neg (by rw [hfo]; simp)] at hch3
              have HCH3 := Lib.hid hch3
              clear hfo hch3
              clear hmy hkz hke
              go_wp2_with (first | (go_at_call 39; ((with_reducible refine (HKB.out _).mono ?_); rintro e w' ⟨rfl, rfl⟩)) | (go_at_call 33; refine (HMY.out _).mono ?_; rintro e w5 ⟨rfl, hb5⟩; have HB5 := Lib.hid (next_below' HB4.out hb5); obtain ⟨x0, x1, x2, x3, x4⟩ := HRX.out w5 (HB4X.out.trans (hb5.mono HB4X.out.size)); clear hb5))
              go_at_call 40
              refine (HTK.out _).mono ?_
              rintro e w6 ⟨rfl, rfl⟩
              by_cases hst : hh < tk
              · have hres : checkP l = 5 := by
                  have h7 : chkGo l 0 = 5 := by rw [HCH3.out, if_pos hst]
                  rw [HG.out (by rw [h7]; decide), h7]
                have HRS := Lib.hid hres
                clear hres
                go_wp2_with fail
                go_ret
                exact ⟨by rw [HRS.out]; rfl, HB4.out⟩
              · have hch4 := HCH3.out
                rw [if_neg hst] at hch4
                have HCH4 := Lib.hid hch4
                have w1 : IntKind.i64.wrap (hh - tk) = hh - tk := IntWalk.i64_in _ (by omega)
                obtain ⟨hn, hhn⟩ : ∃ hn, hh + gv - tk = hn := ⟨_, rfl⟩
                have w2 : IntKind.i64.wrap (hh - tk + gv) = hn := by rw [IntWalk.i64_in _ (by omega)]; omega
                rw [hhn] at HCH4
                have hn0 : 0 ≤ hn := by omega
                clear hch4 hhn
                by_cases hbig : 16 < hn
                · have hres : checkP l = 2 := by
                    have h7 : chkGo l 0 = 2 := by rw [HCH4.out, if_pos hbig]
                    rw [HG.out (by rw [h7]; decide), h7]
                  have HRS := Lib.hid hres
                  clear hres
                  go_wp2_with fail
                  go_ret
                  exact ⟨by rw [HRS.out]; rfl, HB4.out⟩
                · have hnx : Hid (chkGo l 0 = chkGo (l.drop (k + 1)) hn) := by show _ = _; rw [HCH4.out, if_neg hbig]
                  go_wp2_with fail
                  go_roundw
                  case rel => exact ⟨k + 1, hn, by omega, by go_num, rfl, hn0, by omega, hnx.out, HB4.out⟩
                  case measure => simp [intOf]; omega
            | false =>
              have hkz : ¬ o.v.k = 0 := by simpa using hk0
              have hfo : formO o = false := by rw [HFO.out]; simp [hke, hmy, hkz]
              have hres : checkP l = 4 := by
                have h7 : chkGo l 0 = 4 := by rw [HCH2.out, if_pos hfo]
                rw [HG.out (by rw [h7]; decide), h7]
              have HRS := Lib.hid hres
              clear hfo hres
              clear hmy hkz hke
              go_wp2_with (first | (go_at_call 39; ((with_reducible refine (HKB.out _).mono ?_); rintro e w' ⟨rfl, rfl⟩)) | (go_at_call 33; refine (HMY.out _).mono ?_; rintro e w5 ⟨rfl, hb5⟩; have HB5 := Lib.hid (next_below' HB4.out hb5); obtain ⟨x0, x1, x2, x3, x4⟩ := HRX.out w5 (HB4X.out.trans (hb5.mono HB4X.out.size)); clear hb5))
              go_ret
              exact ⟨by rw [HRS.out]; rfl, HB4.out⟩
          | false =>
            rw [hke] at HKB
            cases hk0 : (o.v.k == 0) with
            | true =>
              have hfo : formO o = false := by rw [HFO.out]; simp [hke, hmy]
              have hres : checkP l = 4 := by
                have h7 : chkGo l 0 = 4 := by rw [HCH2.out, if_pos hfo]
                rw [HG.out (by rw [h7]; decide), h7]
              have HRS := Lib.hid hres
              clear hfo hres
              clear hmy hke
              go_wp2_with (first | (go_at_call 39; ((with_reducible refine (HKB.out _).mono ?_); rintro e w' ⟨rfl, rfl⟩)) | (go_at_call 33; refine (HMY.out _).mono ?_; rintro e w5 ⟨rfl, hb5⟩; have HB5 := Lib.hid (next_below' HB4.out hb5); obtain ⟨x0, x1, x2, x3, x4⟩ := HRX.out w5 (HB4X.out.trans (hb5.mono HB4X.out.size)); clear hb5))
              go_ret
              exact ⟨by rw [HRS.out]; rfl, HB4.out⟩
            | false =>
              have hfo : formO o = false := by rw [HFO.out]; simp [hke, hmy]
              have hres : checkP l = 4 := by
                have h7 : chkGo l 0 = 4 := by rw [HCH2.out, if_pos hfo]
                rw [HG.out (by rw [h7]; decide), h7]
              have HRS := Lib.hid hres
              clear hfo hres
              clear hmy hke
              go_wp2_with (first | (go_at_call 39; ((with_reducible refine (HKB.out _).mono ?_); rintro e w' ⟨rfl, rfl⟩)) | (go_at_call 33; refine (HMY.out _).mono ?_; rintro e w5 ⟨rfl, hb5⟩; have HB5 := Lib.hid (next_below' HB4.out hb5); obtain ⟨x0, x1, x2, x3, x4⟩ := HRX.out w5 (HB4X.out.trans (hb5.mono HB4X.out.size)); clear hb5))
              go_ret
              exact ⟨by rw [HRS.out]; rfl, HB4.out⟩
        | false =>
          rw [hmy] at HMY
          cases hke : keyB o.key with
          | true =>
            rw [hke] at HKB
            have hfo : formO o = false := by rw [HFO.out]; simp [hke, hmy]
            have hres : checkP l = 4 := by
              have h7 : chkGo l 0 = 4 := by rw [HCH2.out, if_pos hfo]
              rw [HG.out (by rw [h7]; decide), h7]
            have HRS := Lib.hid hres
            clear hfo hres
            clear hmy hke
            go_wp2_with (first | (go_at_call 39; ((with_reducible refine (HKB.out _).mono ?_); rintro e w' ⟨rfl, rfl⟩)) | (go_at_call 33; refine (HMY.out _).mono ?_; rintro e w5 ⟨rfl, hb5⟩; have HB5 := Lib.hid (next_below' HB4.out hb5); obtain ⟨x0, x1, x2, x3, x4⟩ := HRX.out w5 (HB4X.out.trans (hb5.mono HB4X.out.size)); clear hb5))
            go_ret
            exact ⟨by rw [HRS.out]; rfl, HB4.out⟩
          | false =>
            rw [hke] at HKB
            have hfo : formO o = false := by rw [HFO.out]; simp [hke, hmy]
            have hres : checkP l = 4 := by
              have h7 : chkGo l 0 = 4 := by rw [HCH2.out, if_pos hfo]
              rw [HG.out (by rw [h7]; decide), h7]
            have HRS := Lib.hid hres
            clear hfo hres
            clear hmy hke
            go_wp2_with (first | (go_at_call 39; ((with_reducible refine (HKB.out _).mono ?_); rintro e w' ⟨rfl, rfl⟩)) | (go_at_call 33; refine (HMY.out _).mono ?_; rintro e w5 ⟨rfl, hb5⟩; have HB5 := Lib.hid (next_below' HB4.out hb5); obtain ⟨x0, x1, x2, x3, x4⟩ := HRX.out w5 (HB4X.out.trans (hb5.mono HB4X.out.size)); clear hb5))
            go_ret
            exact ⟨by rw [HRS.out]; rfl, HB4.out⟩
      by_cases hnn2 : nm = 2
      · subst hnn2
        cases hmy : o.v.may with
        | true =>
          rw [hmy] at HMY
          cases hke : o.key.isEmpty with
          | true =>
            cases hk0 : (o.v.k == 0) with
            | true =>
              have hkz : o.v.k = 0 := by simpa using hk0
              have hfo : formO o = true := by rw [HFO.out]; simp [hke, hmy]
              have hch3 := HCH2.out
              rw [if_neg (by rw [hfo]; simp)] at hch3
              have HCH3 := Lib.hid hch3
              clear hfo hch3
              clear hmy hkz
              go_wp2_with (first | (go_at_call 39; ((with_reducible refine (HKB.out _).mono ?_); rintro e w' ⟨rfl, rfl⟩)) | (go_at_call 33; refine (HMY.out _).mono ?_; rintro e w5 ⟨rfl, hb5⟩; have HB5 := Lib.hid (next_below' HB4.out hb5); obtain ⟨x0, x1, x2, x3, x4⟩ := HRX.out w5 (HB4X.out.trans (hb5.mono HB4X.out.size)); clear hb5))
              go_at_call 40
              refine (HTK.out _).mono ?_
              rintro e w6 ⟨rfl, rfl⟩
              by_cases hst : hh < tk
              · have hres : checkP l = 5 := by
                  have h7 : chkGo l 0 = 5 := by rw [HCH3.out, if_pos hst]
                  rw [HG.out (by rw [h7]; decide), h7]
                have HRS := Lib.hid hres
                clear hres
                go_wp2_with fail
                go_ret
                exact ⟨by rw [HRS.out]; rfl, HB5.out⟩
              · have hch4 := HCH3.out
                rw [if_neg hst] at hch4
                have HCH4 := Lib.hid hch4
                have w1 : IntKind.i64.wrap (hh - tk) = hh - tk := IntWalk.i64_in _ (by omega)
                obtain ⟨hn, hhn⟩ : ∃ hn, hh + gv - tk = hn := ⟨_, rfl⟩
                have w2 : IntKind.i64.wrap (hh - tk + gv) = hn := by rw [IntWalk.i64_in _ (by omega)]; omega
                rw [hhn] at HCH4
                have hn0 : 0 ≤ hn := by omega
                clear hch4 hhn
                by_cases hbig : 16 < hn
                · have hres : checkP l = 2 := by
                    have h7 : chkGo l 0 = 2 := by rw [HCH4.out, if_pos hbig]
                    rw [HG.out (by rw [h7]; decide), h7]
                  have HRS := Lib.hid hres
                  clear hres
                  go_wp2_with fail
                  go_ret
                  exact ⟨by rw [HRS.out]; rfl, HB5.out⟩
                · have hnx : Hid (chkGo l 0 = chkGo (l.drop (k + 1)) hn) := by show _ = _; rw [HCH4.out, if_neg hbig]
                  go_wp2_with fail
                  go_roundw
                  case rel => exact ⟨k + 1, hn, by omega, by go_num, rfl, hn0, by omega, hnx.out, HB5.out⟩
                  case measure => simp [intOf]; omega
            | false =>
              have hkz : ¬ o.v.k = 0 := by simpa using hk0
              have hfo : formO o = true := by rw [HFO.out]; simp [hke, hmy]
              have hch3 := HCH2.out
              rw [if_neg (by rw [hfo]; simp)] at hch3
              have HCH3 := Lib.hid hch3
              clear hfo hch3
              clear hmy hkz
              go_wp2_with (first | (go_at_call 39; ((with_reducible refine (HKB.out _).mono ?_); rintro e w' ⟨rfl, rfl⟩)) | (go_at_call 33; refine (HMY.out _).mono ?_; rintro e w5 ⟨rfl, hb5⟩; have HB5 := Lib.hid (next_below' HB4.out hb5); obtain ⟨x0, x1, x2, x3, x4⟩ := HRX.out w5 (HB4X.out.trans (hb5.mono HB4X.out.size)); clear hb5))
              go_at_call 40
              refine (HTK.out _).mono ?_
              rintro e w6 ⟨rfl, rfl⟩
              by_cases hst : hh < tk
              · have hres : checkP l = 5 := by
                  have h7 : chkGo l 0 = 5 := by rw [HCH3.out, if_pos hst]
                  rw [HG.out (by rw [h7]; decide), h7]
                have HRS := Lib.hid hres
                clear hres
                go_wp2_with fail
                go_ret
                exact ⟨by rw [HRS.out]; rfl, HB5.out⟩
              · have hch4 := HCH3.out
                rw [if_neg hst] at hch4
                have HCH4 := Lib.hid hch4
                have w1 : IntKind.i64.wrap (hh - tk) = hh - tk := IntWalk.i64_in _ (by omega)
                obtain ⟨hn, hhn⟩ : ∃ hn, hh + gv - tk = hn := ⟨_, rfl⟩
                have w2 : IntKind.i64.wrap (hh - tk + gv) = hn := by rw [IntWalk.i64_in _ (by omega)]; omega
                rw [hhn] at HCH4
                have hn0 : 0 ≤ hn := by omega
                clear hch4 hhn
                by_cases hbig : 16 < hn
                · have hres : checkP l = 2 := by
                    have h7 : chkGo l 0 = 2 := by rw [HCH4.out, if_pos hbig]
                    rw [HG.out (by rw [h7]; decide), h7]
                  have HRS := Lib.hid hres
                  clear hres
                  go_wp2_with fail
                  go_ret
                  exact ⟨by rw [HRS.out]; rfl, HB5.out⟩
                · have hnx : Hid (chkGo l 0 = chkGo (l.drop (k + 1)) hn) := by show _ = _; rw [HCH4.out, if_neg hbig]
                  go_wp2_with fail
                  go_roundw
                  case rel => exact ⟨k + 1, hn, by omega, by go_num, rfl, hn0, by omega, hnx.out, HB5.out⟩
                  case measure => simp [intOf]; omega
          | false =>
            cases hk0 : (o.v.k == 0) with
            | true =>
              have hfo : formO o = false := by rw [HFO.out]; simp [hke, hmy]
              have hres : checkP l = 4 := by
                have h7 : chkGo l 0 = 4 := by rw [HCH2.out, if_pos hfo]
                rw [HG.out (by rw [h7]; decide), h7]
              have HRS := Lib.hid hres
              clear hfo hres
              clear hmy
              go_wp2_with (first | (go_at_call 39; ((with_reducible refine (HKB.out _).mono ?_); rintro e w' ⟨rfl, rfl⟩)) | (go_at_call 33; refine (HMY.out _).mono ?_; rintro e w5 ⟨rfl, hb5⟩; have HB5 := Lib.hid (next_below' HB4.out hb5); obtain ⟨x0, x1, x2, x3, x4⟩ := HRX.out w5 (HB4X.out.trans (hb5.mono HB4X.out.size)); clear hb5))
              go_ret
              exact ⟨by rw [HRS.out]; rfl, HB4.out⟩
            | false =>
              have hfo : formO o = false := by rw [HFO.out]; simp [hke, hmy]
              have hres : checkP l = 4 := by
                have h7 : chkGo l 0 = 4 := by rw [HCH2.out, if_pos hfo]
                rw [HG.out (by rw [h7]; decide), h7]
              have HRS := Lib.hid hres
              clear hfo hres
              clear hmy
              go_wp2_with (first | (go_at_call 39; ((with_reducible refine (HKB.out _).mono ?_); rintro e w' ⟨rfl, rfl⟩)) | (go_at_call 33; refine (HMY.out _).mono ?_; rintro e w5 ⟨rfl, hb5⟩; have HB5 := Lib.hid (next_below' HB4.out hb5); obtain ⟨x0, x1, x2, x3, x4⟩ := HRX.out w5 (HB4X.out.trans (hb5.mono HB4X.out.size)); clear hb5))
              go_ret
              exact ⟨by rw [HRS.out]; rfl, HB4.out⟩
        | false =>
          rw [hmy] at HMY
          cases hke : o.key.isEmpty with
          | true =>
            have hfo : formO o = false := by rw [HFO.out]; simp [hke, hmy]
            have hres : checkP l = 4 := by
              have h7 : chkGo l 0 = 4 := by rw [HCH2.out, if_pos hfo]
              rw [HG.out (by rw [h7]; decide), h7]
            have HRS := Lib.hid hres
            clear hfo hres
            clear hmy
            go_wp2_with (first | (go_at_call 39; ((with_reducible refine (HKB.out _).mono ?_); rintro e w' ⟨rfl, rfl⟩)) | (go_at_call 33; refine (HMY.out _).mono ?_; rintro e w5 ⟨rfl, hb5⟩; have HB5 := Lib.hid (next_below' HB4.out hb5); obtain ⟨x0, x1, x2, x3, x4⟩ := HRX.out w5 (HB4X.out.trans (hb5.mono HB4X.out.size)); clear hb5))
            go_ret
            exact ⟨by rw [HRS.out]; rfl, HB5.out⟩
          | false =>
            have hfo : formO o = false := by rw [HFO.out]; simp [hke, hmy]
            have hres : checkP l = 4 := by
              have h7 : chkGo l 0 = 4 := by rw [HCH2.out, if_pos hfo]
              rw [HG.out (by rw [h7]; decide), h7]
            have HRS := Lib.hid hres
            clear hfo hres
            clear hmy
            go_wp2_with (first | (go_at_call 39; ((with_reducible refine (HKB.out _).mono ?_); rintro e w' ⟨rfl, rfl⟩)) | (go_at_call 33; refine (HMY.out _).mono ?_; rintro e w5 ⟨rfl, hb5⟩; have HB5 := Lib.hid (next_below' HB4.out hb5); obtain ⟨x0, x1, x2, x3, x4⟩ := HRX.out w5 (HB4X.out.trans (hb5.mono HB4X.out.size)); clear hb5))
            go_ret
            exact ⟨by rw [HRS.out]; rfl, HB4.out⟩
      have hb1 : (nm == 1) = false := by simpa using hnn1
      have hb2 : (nm == 2) = false := by simpa using hnn2
      cases hmy : o.v.may with
      | true =>
        rw [hmy] at HMY
        cases hke : o.key.isEmpty with
        | true =>
          cases hk0 : (o.v.k == 0) with
          | true =>
            have hkz : o.v.k = 0 := by simpa using hk0
            have hfo : formO o = true := by rw [HFO.out]; simp [hke, hmy, hkz, hnn1, hnn2]
            have hch3 := HCH2.out
            rw [if_neg (by rw [hfo]; simp)] at hch3
            have HCH3 := Lib.hid hch3
            clear hfo hch3
            clear hmy hkz
            go_wp2_with (first | (go_at_call 39; ((with_reducible refine (HKB.out _).mono ?_); rintro e w' ⟨rfl, rfl⟩)) | (go_at_call 33; refine (HMY.out _).mono ?_; rintro e w5 ⟨rfl, hb5⟩; have HB5 := Lib.hid (next_below' HB4.out hb5); obtain ⟨x0, x1, x2, x3, x4⟩ := HRX.out w5 (HB4X.out.trans (hb5.mono HB4X.out.size)); clear hb5))
            go_at_call 40
            refine (HTK.out _).mono ?_
            rintro e w6 ⟨rfl, rfl⟩
            by_cases hst : hh < tk
            · have hres : checkP l = 5 := by
                have h7 : chkGo l 0 = 5 := by rw [HCH3.out, if_pos hst]
                rw [HG.out (by rw [h7]; decide), h7]
              have HRS := Lib.hid hres
              clear hres
              go_wp2_with fail
              go_ret
              exact ⟨by rw [HRS.out]; rfl, HB4.out⟩
            · have hch4 := HCH3.out
              rw [if_neg hst] at hch4
              have HCH4 := Lib.hid hch4
              have w1 : IntKind.i64.wrap (hh - tk) = hh - tk := IntWalk.i64_in _ (by omega)
              obtain ⟨hn, hhn⟩ : ∃ hn, hh + gv - tk = hn := ⟨_, rfl⟩
              have w2 : IntKind.i64.wrap (hh - tk + gv) = hn := by rw [IntWalk.i64_in _ (by omega)]; omega
              rw [hhn] at HCH4
              have hn0 : 0 ≤ hn := by omega
              clear hch4 hhn
              by_cases hbig : 16 < hn
              · have hres : checkP l = 2 := by
                  have h7 : chkGo l 0 = 2 := by rw [HCH4.out, if_pos hbig]
                  rw [HG.out (by rw [h7]; decide), h7]
                have HRS := Lib.hid hres
                clear hres
                go_wp2_with fail
                go_ret
                exact ⟨by rw [HRS.out]; rfl, HB4.out⟩
              · have hnx : Hid (chkGo l 0 = chkGo (l.drop (k + 1)) hn) := by show _ = _; rw [HCH4.out, if_neg hbig]
                go_wp2_with fail
                go_roundw
                case rel => exact ⟨k + 1, hn, by omega, by go_num, rfl, hn0, by omega, hnx.out, HB4.out⟩
                case measure => simp [intOf]; omega
          | false =>
            have hkz : ¬ o.v.k = 0 := by simpa using hk0
            have hfo : formO o = false := by rw [HFO.out]; simp [hke, hmy, hkz, hnn1, hnn2]
            have hres : checkP l = 4 := by
              have h7 : chkGo l 0 = 4 := by rw [HCH2.out, if_pos hfo]
              rw [HG.out (by rw [h7]; decide), h7]
            have HRS := Lib.hid hres
            clear hfo hres
            clear hmy hkz
            go_wp2_with (first | (go_at_call 39; ((with_reducible refine (HKB.out _).mono ?_); rintro e w' ⟨rfl, rfl⟩)) | (go_at_call 33; refine (HMY.out _).mono ?_; rintro e w5 ⟨rfl, hb5⟩; have HB5 := Lib.hid (next_below' HB4.out hb5); obtain ⟨x0, x1, x2, x3, x4⟩ := HRX.out w5 (HB4X.out.trans (hb5.mono HB4X.out.size)); clear hb5))
            go_ret
            exact ⟨by rw [HRS.out]; rfl, HB4.out⟩
        | false =>
          cases hk0 : (o.v.k == 0) with
          | true =>
            have hfo : formO o = false := by rw [HFO.out]; simp [hke, hmy, hnn1, hnn2]
            have hres : checkP l = 4 := by
              have h7 : chkGo l 0 = 4 := by rw [HCH2.out, if_pos hfo]
              rw [HG.out (by rw [h7]; decide), h7]
            have HRS := Lib.hid hres
            clear hfo hres
            clear hmy
            go_wp2_with (first | (go_at_call 39; ((with_reducible refine (HKB.out _).mono ?_); rintro e w' ⟨rfl, rfl⟩)) | (go_at_call 33; refine (HMY.out _).mono ?_; rintro e w5 ⟨rfl, hb5⟩; have HB5 := Lib.hid (next_below' HB4.out hb5); obtain ⟨x0, x1, x2, x3, x4⟩ := HRX.out w5 (HB4X.out.trans (hb5.mono HB4X.out.size)); clear hb5))
            go_ret
            exact ⟨by rw [HRS.out]; rfl, HB4.out⟩
          | false =>
            have hfo : formO o = false := by rw [HFO.out]; simp [hke, hmy, hnn1, hnn2]
            have hres : checkP l = 4 := by
              have h7 : chkGo l 0 = 4 := by rw [HCH2.out, if_pos hfo]
              rw [HG.out (by rw [h7]; decide), h7]
            have HRS := Lib.hid hres
            clear hfo hres
            clear hmy
            go_wp2_with (first | (go_at_call 39; ((with_reducible refine (HKB.out _).mono ?_); rintro e w' ⟨rfl, rfl⟩)) | (go_at_call 33; refine (HMY.out _).mono ?_; rintro e w5 ⟨rfl, hb5⟩; have HB5 := Lib.hid (next_below' HB4.out hb5); obtain ⟨x0, x1, x2, x3, x4⟩ := HRX.out w5 (HB4X.out.trans (hb5.mono HB4X.out.size)); clear hb5))
            go_ret
            exact ⟨by rw [HRS.out]; rfl, HB4.out⟩
      | false =>
        rw [hmy] at HMY
        cases hke : o.key.isEmpty with
        | true =>
          have hfo : formO o = false := by rw [HFO.out]; simp [hke, hmy, hnn1, hnn2]
          have hres : checkP l = 4 := by
            have h7 : chkGo l 0 = 4 := by rw [HCH2.out, if_pos hfo]
            rw [HG.out (by rw [h7]; decide), h7]
          have HRS := Lib.hid hres
          clear hfo hres
          clear hmy
          go_wp2_with (first | (go_at_call 39; ((with_reducible refine (HKB.out _).mono ?_); rintro e w' ⟨rfl, rfl⟩)) | (go_at_call 33; refine (HMY.out _).mono ?_; rintro e w5 ⟨rfl, hb5⟩; have HB5 := Lib.hid (next_below' HB4.out hb5); obtain ⟨x0, x1, x2, x3, x4⟩ := HRX.out w5 (HB4X.out.trans (hb5.mono HB4X.out.size)); clear hb5))
          go_ret
          exact ⟨by rw [HRS.out]; rfl, HB4.out⟩
        | false =>
          have hfo : formO o = false := by rw [HFO.out]; simp [hke, hmy, hnn1, hnn2]
          have hres : checkP l = 4 := by
            have h7 : chkGo l 0 = 4 := by rw [HCH2.out, if_pos hfo]
            rw [HG.out (by rw [h7]; decide), h7]
          have HRS := Lib.hid hres
          clear hfo hres
          clear hmy
          go_wp2_with (first | (go_at_call 39; ((with_reducible refine (HKB.out _).mono ?_); rintro e w' ⟨rfl, rfl⟩)) | (go_at_call 33; refine (HMY.out _).mono ?_; rintro e w5 ⟨rfl, hb5⟩; have HB5 := Lib.hid (next_below' HB4.out hb5); obtain ⟨x0, x1, x2, x3, x4⟩ := HRX.out w5 (HB4X.out.trans (hb5.mono HB4X.out.size)); clear hb5))
          go_ret
          exact ⟨by rw [HRS.out]; rfl, HB4.out⟩
    · obtain rfl : k = n := by omega
      have hz : chkGo l 0 = 0 := by rw [HC.out, List.drop_of_length_le (by rw [HN.out]; exact Nat.le_refl _)]; rfl
      have hres := HZ.out hz
      have HRD := Lib.hid (reads9_any ad k cap l wr (H.out.below HB.out) hn)
      obtain ⟨a, ha⟩ : ∃ a, (readsP l).length = a := ⟨_, rfl⟩
      obtain ⟨b, hb⟩ : ∃ b, (namesP l).length = b := ⟨_, rfl⟩
      rw [ha, hb] at hres
      have HRES := Lib.hid hres
      have HA : Hid ((namedP 1 1 l).length = a) := ha
      have HBB : Hid ((namedP 2 3 l).length = b) := hb
      clear hz hres ha hb
      go_wp2_with fail
      go_at_call 19
      refine (HRD.out).mono ?_
      rintro e w1 ⟨v, rfl, hown, hb1⟩
      obtain ⟨av, cv, rfl, _⟩ := Rd.of_own hown
      rw [HA.out]
      have HB1 := Lib.hid (next_below' HB.out hb1)
      clear hown hb1
      by_cases h16 : 16 < a
      · have d1 : decide ((16 : Int) < (a : Int)) = true := decide_eq_true (by omega)
        have hr3 : checkP l = 3 := by rw [HRES.out, if_pos (.inl h16)]
        have HRS := Lib.hid hr3
        clear hr3 h16
        go_wp2_with fail
        go_ret
        exact ⟨by rw [HRS.out]; rfl, HB1.out⟩
      · have d1 : decide ((16 : Int) < (a : Int)) = false := decide_eq_false (by omega)
        have HRN := Lib.hid (names9_any ad k cap l w1 (H.out.below HB1.out) hn)
        go_wp2_with fail
        go_at_call 20
        refine (HRN.out).mono ?_
        rintro e w2 ⟨v, rfl, hown, hb2⟩
        obtain ⟨av2, cv2, rfl, _⟩ := Rd.of_own hown
        rw [HBB.out]
        have HB2 := Lib.hid (next_below' HB1.out hb2)
        clear hown hb2
        by_cases h17 : 16 < b
        · have d2 : decide ((16 : Int) < (b : Int)) = true := decide_eq_true (by omega)
          have hr3 : checkP l = 3 := by rw [HRES.out, if_pos (.inr h17)]
          have HRS := Lib.hid hr3
          clear hr3
          go_wp2_with fail
          go_ret
          exact ⟨by rw [HRS.out]; rfl, HB2.out⟩
        · have d2 : decide ((16 : Int) < (b : Int)) = false := decide_eq_false (by omega)
          have hr3 : checkP l = 0 := by rw [HRES.out, if_neg (fun h => h.elim h16 h17)]
          have HRS := Lib.hid hr3
          clear hr3
          go_wp2_with fail
          go_ret
          exact ⟨by rw [HRS.out]; rfl, HB2.out⟩
end Go.Proofs.YtalpbphfmelhhaaGreatDoor
