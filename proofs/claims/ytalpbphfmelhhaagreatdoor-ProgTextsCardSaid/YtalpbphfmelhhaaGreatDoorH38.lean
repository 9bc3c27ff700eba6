/-
  The document's reading of a program (raceref9.Parse). Written by a program (h37gen.py).
-/
import Derived.Test.YtalpbphfmelhhaaGreatDoorJB
namespace Go.Proofs.YtalpbphfmelhhaaGreatDoor
open Go.RowKit Go.Maps Go.Sort
set_option maxRecDepth 100000
attribute [local go_sem] bs_size bs_get bs_toList frombits tobits run_store_float
/-! ### raceref9.Parse -/
theorem wordX_iff {x : List UInt8} {k : Nat} (h1 : 1 ≤ k) (h2 : k < 16) : (wordX (k : Int) == x) = decide (codeW x = (k : Int)) := by
  have hk : codeOk (k : Int) = true := by unfold codeOk; rw [decide_eq_true (by omega), decide_eq_true (by omega)]; rfl
  have hw : wordX (k : Int) = wordC (k : Int) := by unfold wordX; rw [if_pos hk]
  rw [hw, Bool.eq_iff_iff, decide_eq_true_eq, beq_iff_eq]
  constructor
  · intro h; rw [← h, codeW_of (by omega) (by omega)]
  · intro h
    rcases codeW_cases x with ⟨h0, _⟩ | ⟨_, _, h3⟩
    · omega
    · rw [h] at h3; exact h3
/-- A step's block on its way. -/
def O9 (q : Nat) (X : World) (c0 c1 c2 c3 c4 : Value) (W : World) : Prop := W.heap[q]? = some (.cells #[c0, c1, c2, c3, c4] 59 (0, 0)) ∧ Below q X W
theorem O9.set {q : Nat} {X W : World} {c0 c1 c2 c3 c4 : Value} (h : O9 q X c0 c1 c2 c3 c4 W) (v : Value) : O9 q X v c1 c2 c3 c4 (W.setCell ⟨q, 0, none⟩ v) ∧ O9 q X c0 v c2 c3 c4 (W.setCell ⟨q, 1, none⟩ v) :=
  ⟨⟨row_set (i := 0) (v := v) h.1 rfl, h.2.setCell (p := ⟨q, 0, none⟩) (Nat.le_refl _) _⟩, ⟨row_set (i := 1) (v := v) h.1 rfl, h.2.setCell (p := ⟨q, 1, none⟩) (Nat.le_refl _) _⟩⟩
theorem O9.set3 {q : Nat} {X W : World} {c0 c1 c2 c3 c4 : Value} (h : O9 q X c0 c1 c2 c3 c4 W) (x y z : Value) : O9 q X c0 c1 x y z (((W.setCell ⟨q, 2, none⟩ x).setCell ⟨q, 3, none⟩ y).setCell ⟨q, 4, none⟩ z) :=
  ⟨row_set (i := 4) (v := z) (row_set (i := 3) (v := y) (row_set (i := 2) (v := x) h.1 rfl) rfl) rfl, ((h.2.setCell (p := ⟨q, 2, none⟩) (Nat.le_refl _) _).setCell (p := ⟨q, 3, none⟩) (Nat.le_refl _) _).setCell (p := ⟨q, 4, none⟩) (Nat.le_refl _) _⟩
theorem O9.drew {q : Nat} {X W W' : World} {c0 c1 c2 c3 c4 : Value} (h : O9 q X c0 c1 c2 c3 c4 W) (hb : Below W.heap.size W W') (hq : q < W.heap.size) : O9 q X c0 c1 c2 c3 c4 W' := ⟨(hb.block q hq).trans h.1, h.2.trans (hb.mono (Nat.le_of_lt hq))⟩
theorem O9.lt {q : Nat} {X W : World} {c0 c1 c2 c3 c4 : Value} (h : O9 q X c0 c1 c2 c3 c4 W) : q < W.heap.size := (Array.getElem?_eq_some_iff.1 h.1).1
theorem O9.frz {q : Nat} {X W : World} {c0 c1 c2 c3 c4 : Value} (h : O9 q X c0 c1 c2 c3 c4 W) (i : Nat) : W.frozen? ⟨q, i, none⟩ = false := frozen_of_row _ q i _ _ h.1
theorem own_q {w X W : World} {v : Value} {l : List OpP} {q : Nat} (h : OwnO5 X w.heap.size v l) (hq : ∀ k, v.ownBlock = some k → k < q) (hb : Below q X W) : OwnO5 W w.heap.size v l := ownsRow_keep h fun k hk => hb.block k (hq k hk)
theorem cunq9 {x t : List UInt8} {er : Int} (hl : x.length ≤ 100000) (h : unqV x = .tuple #[.string (bs t), .int .i64 er]) (W : World) : Calls Tryz.prog 59 #[.string (bs x)] W fun e w' => e = .returned (.tuple #[.string (bs t), .int .i64 er]) ∧ Below W.heap.size W w' := by
  have := refUnquote_any x hl W
  rw [h] at this; exact this
set_option maxHeartbeats 16000000 in
theorem prgParse9_any (l : List UInt8) (hl : l.length ≤ 100000) (w : World) : Calls Tryz.prog 29 #[.string (bs l)] w (ParsePost w l) := by
  have HW := Lib.hid (split_any l (by omega) w)
  go_enter Tryz.func29, Tryz.ntmps29
  go_wp2_with fail
  go_at_call 57
  refine (HW.out).mono ?_
  rintro e w1 (⟨hn, rfl, hb1⟩ | ⟨ws, v, hs, hlen, rfl, ho, hb1⟩)
  · have HR := Lib.hid (ParsePost.err (parseP_none hn) hb1)
    clear hn hb1
    go_wp2_with fail
    refine bodyPost_ret (results_tmp2 rfl _ _ _) rfl ?_
    exact HR.out
  · obtain ⟨aw, cw, rfl, hrd⟩ := OwnK.rd ho
    obtain ⟨nw, hnw⟩ : ∃ n, ws.length = n := ⟨_, rfl⟩
    rw [hnw] at hrd hlen ⊢
    have HRD := Lib.hid hrd
    have HB1 := Lib.hid hb1
    have HWS := Lib.hid hs
    have HXL : Hid (∀ x ∈ ws, x.length ≤ 100000) := fun x hx => by have := wm_len hs x hx; simp at this; omega
    have HNW := Lib.hid hnw
    have hnl : nw ≤ 100000 := by omega
    clear hs hlen ho hb1 hrd hnw
    go_wp2_with fail
    go_loopw [5, 6, 7, 8, 9, 10] (fun e5 pv i _ _ _ WZ => ∃ (j : Nat) (out : List OpP), j ≤ nw ∧ i = .int .i64 (j : Nat) ∧ out.length ≤ j ∧ Hid (OwnO5 WZ w1.heap.size pv out) ∧ Hid (PAt ws j out) ∧ Hid (Below w1.heap.size w1 WZ)) (fun _ _ i _ _ _ _ => nw - (intOf i).toNat)
    case atStart => exact ⟨0, [], Nat.zero_le _, rfl, Nat.le_refl _, OwnO5.nil _ _, PAt.start ws, Below.refl _ _⟩
    case round =>
      obtain ⟨j, out, hj, rfl, hol, HO, HP, HBV⟩ := hrel
      rename World => X9
      have HB := Lib.hid (HB1.out.trans (HBV.out.mono HB1.out.size))
      obtain ⟨ap, cp, rfl, _⟩ := OwnO5.rd HO.out
      by_cases hlt : j < nw
      · obtain ⟨x, hx⟩ : ∃ x, ws[j]? = some x := ⟨_, List.getElem?_eq_getElem (by have := HNW.out; omega)⟩
        obtain ⟨bk, offk, rfl, _⟩ := (HRD.out.below HBV.out).at hx
        have HX := Lib.hid hx
        have h9 : Hid (O9 X9.heap.size X9 (.int .i64 0) (.string ⟨#[]⟩) (.int .i64 0) (.float .f64 0) (.string ⟨#[]⟩) (X9.alloc (.cells #[.int .i64 0, .string ⟨#[]⟩, .int .i64 0, .float .f64 0, .string ⟨#[]⟩] 59))) := ⟨heap_alloc_new X9 _, (Below.refl _ _).alloc (Nat.le_refl _) _⟩
        have HOQ : Hid (∀ k, (Value.slice ap out.length cp).ownBlock = some k → k < X9.heap.size) := fun k hk => (World.ownsRow.lt HO.out k hk).2
        clear hx
        go_wp2_with fail
        obtain ⟨q8, hq8⟩ : ∃ q, X9.heap.size = q := ⟨_, rfl⟩
        have HQW : Hid (w1.heap.size ≤ q8) := by show w1.heap.size ≤ q8; rw [← hq8]; exact HBV.out.size
        rw [hq8] at h9 HOQ ⊢
        clear hq8
        go_loopw [9] (fun c WZ => ∃ (k : Nat) (cv : Int), 1 ≤ k ∧ k ≤ 16 ∧ c = .int .i64 (k : Nat) ∧ Hid (cv = if codeW x < (k : Int) then codeW x else 0) ∧ Hid (O9 q8 X9 (.int .i64 cv) (.string ⟨#[]⟩) (.int .i64 0) (.float .f64 0) (.string ⟨#[]⟩) WZ)) (fun c _ => 16 - (intOf c).toNat)
        case atStart => exact ⟨1, 0, Nat.le_refl _, by decide, rfl, (by
          show (0 : Int) = _
          rcases codeW_cases x with ⟨h, _⟩ | ⟨h, _, _⟩
          · rw [h]; rfl
          · rw [if_neg (by omega)]), h9.out⟩
        case round =>
          clear h9
          obtain ⟨k, cv, hk1, hk2, rfl, HCV, H9⟩ := hrel
          have HBX := Lib.hid (HBV.out.trans (H9.out.2.mono HQW.out))
          obtain ⟨bk2, offk2, hk9, ck0⟩ := (HRD.out.below HBX.out).at HX.out
          cases hk9
          obtain ⟨x0, _, _, _, _⟩ := five_at H9.out.1
          by_cases hlt2 : k < 16
          · have hwx := wordX_iff (x := x) hk1 hlt2
            have HWD : Hid (∀ W, Calls Tryz.prog 58 #[.int .i64 (k : Nat)] W fun e w' => e = .returned (.string (bs (wordX (k : Nat)))) ∧ w' = W) := fun W => word9_any _ W
            obtain ⟨wx, hwxe⟩ : ∃ wx, wordX (k : Int) = wx := ⟨_, rfl⟩
            rw [hwxe] at hwx HWD
            have d15 : decide ((k : Int) ≤ 15) = true := decide_eq_true (by omega)
            clear hwxe
            by_cases hm : codeW x = (k : Int)
            · have he : (wx == x) = true := by rw [hwx]; exact decide_eq_true hm
              have HCV2 : Hid ((k : Int) = if codeW x < ((k + 1 : Nat) : Int) then codeW x else 0) := by show _ = _; rw [if_pos (by omega), hm]
              clear hwx hm
              go_wp2_with fail
              go_quiet ((go_at_call 58; exact Calls.quiet_of_same (HWD.out _)))
              obtain ⟨Wd, hWd⟩ : ∃ Wd, wr.drewN nq = Wd := ⟨_, rfl⟩
              have h9d : O9 q8 X9 (.int .i64 cv) (.string ⟨#[]⟩) (.int .i64 0) (.float .f64 0) (.string ⟨#[]⟩) Wd := by
                rw [← hWd]
                exact ⟨H9.out.1, H9.out.2.trans ⟨rfl, rfl, rfl, Nat.le_refl _, fun _ _ => rfl⟩⟩
              obtain ⟨x0, _, _, _, _⟩ := five_at h9d.1
              have fz := h9d.frz 0
              have H9N := Lib.hid (h9d.set (.int .i64 (k : Nat))).1
              rw [hWd]
              clear hWd h9d
              go_wp2_with fail
              go_roundw
              case rel => exact ⟨k + 1, (k : Nat), by omega, by omega, by go_num, HCV2.out, H9N.out⟩
              case measure => simp [intOf]; omega
            · have he : (wx == x) = false := by rw [hwx]; exact decide_eq_false hm
              have HCV2 : Hid (cv = if codeW x < ((k + 1 : Nat) : Int) then codeW x else 0) := by
                show _ = _
                rw [HCV.out]
                by_cases h : codeW x < (k : Int)
                · rw [if_pos h, if_pos (by omega)]
                · rw [if_neg h, if_neg (by omega)]
              clear hwx hm
              go_wp2_with fail
              go_quiet ((go_at_call 58; exact Calls.quiet_of_same (HWD.out _)))
              have H9N : Hid (O9 q8 X9 (.int .i64 cv) (.string ⟨#[]⟩) (.int .i64 0) (.float .f64 0) (.string ⟨#[]⟩) (wr.drewN nq)) := ⟨H9.out.1, H9.out.2.trans ⟨rfl, rfl, rfl, Nat.le_refl _, fun _ _ => rfl⟩⟩
              go_wp2_with fail
              go_roundw
              case rel => exact ⟨k + 1, cv, by omega, by omega, by go_num, HCV2.out, H9N.out⟩
              case measure => simp [intOf]; omega
          · obtain rfl : k = 16 := by omega
            have hcv : cv = codeW x := by
              rw [HCV.out]
              rcases codeW_cases x with ⟨h, _⟩ | ⟨_, h, _⟩
              · rw [h]; rfl
              · rw [if_pos (by omega)]
            have HNM : Hid (∀ W, Calls Tryz.prog 38 #[.int .i64 cv] W fun e w' => e = .returned (.int .i64 (namesC cv)) ∧ w' = W) := fun W => named9_any cv W
            clear ck0
            rcases codeW_cases x with ⟨hc0, _⟩ | ⟨hc1, hc2, _⟩
            · have h0 : cv = 0 := by rw [hcv, hc0]
              subst h0
              have HR := Lib.hid (ParsePost.err (w := w) (w' := wr) (parseP_bad HWS.out (HP.out.bad HX.out hc0) (by decide)) (HB1.out.trans (HBX.out.mono HB1.out.size)))
              clear hcv hc0
              go_wp2_with fail
              refine bodyPost_ret (results_tmp2 rfl _ _ _) rfl ?_
              exact HR.out
            · have hc0b : (cv == 0) = false := by rw [beq_eq_false_iff_ne]; omega
              rw [← hcv] at hc1 hc2
              have HCV := Lib.hid hcv
              have HC1 := Lib.hid hc1
              have HC2 := Lib.hid hc2
              have HOW := Lib.hid (own_q HO.out HOQ.out H9.out.2)
              have hnn := names_cases cv
              obtain ⟨nm, hnm⟩ : ∃ nm, namesC cv = nm := ⟨_, rfl⟩
              rw [hnm] at HNM hnn
              have HNE := Lib.hid hnm
              clear hcv hc1 hc2 hnm
              rcases hnn with hn | hn | hn
              · subst hn
                have HP2 := Lib.hid (HP.out.bare HX.out (by rw [← HCV.out]; exact HC1.out) (by rw [← HCV.out]; exact HC2.out) (by rw [← HCV.out]; exact HNE.out))
                rw [← HCV.out] at HP2
                obtain ⟨x0, x1, x2, x3, x4⟩ := five_at H9.out.1
                have HOA : Hid (World.ownsRow (wr.alloc (.cells #[.int .i64 cv, .string ⟨#[]⟩, .int .i64 0, .float .f64 0, .string ⟨#[]⟩] 59)) w1.heap.size 59 5 (.slice ap out.length cp) out.length (flatE opCells out)) := World.ownsRow.alloc HOW.out _
                have HLA : Hid (Rd (wr.alloc (.cells #[.int .i64 cv, .string ⟨#[]⟩, .int .i64 0, .float .f64 0, .string ⟨#[]⟩] 59)) (some ⟨wr.heap.size, 0, none⟩) 1 1 5 (opCells ⟨cv, [], Vl.nil⟩)) := Rd.lone wr #[.int .i64 cv, .string ⟨#[]⟩, .int .i64 0, .float .f64 0, .string ⟨#[]⟩] 5 rfl 59
                go_wp2_with (first | (go_at_call 38; ((with_reducible refine (HNM.out _).mono ?_); rintro e W ⟨rfl, rfl⟩)) | (at_builtin; refine wpList_app SOp rfl (.tmp 91) (.tmp 93) rfl w1.heap.size rfl HOA.out rfl HLA.out (by simp [opCells, Value.oneCell']) (by omega) (by unfold maxLen; omega) (by have := HBX.out.size; simp; omega) ?_))
                intro v6 w6 hown6 hb6 _
                have HO6 := Lib.hid (own_snoc ⟨cv, [], Vl.nil⟩ rfl hown6)
                have HBV6 := Lib.hid ((HBX.out.alloc HBX.out.size _).trans hb6)
                clear hown6 hb6
                go_wp2_with fail
                go_roundw
                case rel => exact ⟨j + 1, _, by omega, by go_num, by simp; omega, HO6.out, HP2.out, HBV6.out⟩
                case measure => simp [intOf]; omega
              · subst hn
                have hnn : namesC (codeW x) ≠ 0 := by rw [← HCV.out, HNE.out]; decide
                by_cases hend : j + 1 = nw
                · have HR := Lib.hid (ParsePost.err (w := w) (w' := wr) (parseP_bad HWS.out (HP.out.short HX.out (by have := HC1.out; have := HCV.out; omega) hnn (by rw [HNW.out]; exact hend.symm)) (by decide)) (HB1.out.trans (HBX.out.mono HB1.out.size)))
                  subst hend
                  clear hnn
                  go_wp2_with (go_at_call 38; ((with_reducible refine (HNM.out _).mono ?_); rintro e W ⟨rfl, rfl⟩))
                  refine bodyPost_ret (results_tmp2 rfl _ _ _) rfl ?_
                  exact HR.out
                · obtain ⟨y, hy⟩ : ∃ y, ws[j + 1]? = some y := ⟨_, List.getElem?_eq_getElem (by have := HNW.out; omega)⟩
                  obtain ⟨bk3, offk3, hk3, ck3⟩ := (HRD.out.below HBX.out).at hy
                  cases hk3
                  have HY := Lib.hid hy
                  have HYL : Hid (y.length ≤ 100000) := HXL.out y (List.mem_of_getElem? hy)
                  have HNN := Lib.hid hnn
                  have dne : decide (j + 1 = nw) = false := by simpa using hend
                  have h2 : ¬ namesC (codeW x) = 2 := by rw [← HCV.out, HNE.out]; decide
                  have HNP : Hid (nameP (codeW x) y = match unqOf y with | none => (4, ⟨codeW x, [], Vl.nil⟩) | some t => if keyB t then (0, ⟨codeW x, t, Vl.nil⟩) else (4, ⟨codeW x, [], Vl.nil⟩)) := by show _ = _; unfold nameP; rw [if_neg h2]; rfl
                  clear hy hnn h2
                  rcases unqV_cases y with ⟨hu, hv⟩ | ⟨t, hu, hyq, hv⟩
                  · have hnp : nameP (codeW x) y = (4, ⟨codeW x, [], Vl.nil⟩) := by rw [HNP.out, hu]
                    have HUQ := Lib.hid (cunq9 HYL.out hv)
                    have hbad := parseP_bad HWS.out (HP.out.fail HX.out HY.out (by have := HC1.out; have := HCV.out; omega) HNN.out (by rw [hnp]; simp)) (by rw [hnp]; simp)
                    rw [hnp] at hbad
                    have HBAD := Lib.hid hbad
                    clear hnp hbad hu hv
                    go_wp2_with (go_at_call 38; ((with_reducible refine (HNM.out _).mono ?_); rintro e W ⟨rfl, rfl⟩))
                    go_at_call 59
                    with_reducible refine (HUQ.out _).mono ?_
                    rintro e W5 ⟨rfl, hb5⟩
                    have h9 := H9.out.drew hb5 H9.out.lt
                    obtain ⟨_, z1, _, _, _⟩ := five_at h9.1
                    have fz := h9.frz 1
                    have H9N := Lib.hid (h9.set (.string (bs []))).2
                    obtain ⟨Wz, hWz⟩ : ∃ Wz, W5.setCell ⟨q8, 1, none⟩ (.string (bs [])) = Wz := ⟨_, rfl⟩
                    rw [hWz] at H9N
                    clear h9 hb5 ck3 x0
                    obtain ⟨x0, x1, x2, x3, x4⟩ := five_at H9N.out.1
                    go_wp2_with fail
                    refine bodyPost_ret (results_tmp2 rfl _ _ _) rfl ?_
                    exact ParsePost.err HBAD.out (HB1.out.trans ((HBV.out.trans (H9N.out.2.mono HQW.out)).mono HB1.out.size))
                  · clear hyq
                    have HUQ := Lib.hid (cunq9 HYL.out hv)
                    cases hk : keyB t with
                    | false =>
                      have hnp : nameP (codeW x) y = (4, ⟨codeW x, [], Vl.nil⟩) := by rw [HNP.out, hu]; simp only; rw [hk]; rfl
                      have hbad := parseP_bad HWS.out (HP.out.fail HX.out HY.out (by have := HC1.out; have := HCV.out; omega) HNN.out (by rw [hnp]; simp)) (by rw [hnp]; simp)
                      rw [hnp] at hbad
                      have HBAD := Lib.hid hbad
                      have HKY : Hid (∀ W, Calls Tryz.prog 39 #[.string (bs t)] W fun e w' => e = .returned (.bool false) ∧ w' = W) := fun W => by rw [← hk]; exact refKey_any t W
                      clear hnp hbad hu hv hk
                      go_wp2_with (go_at_call 38; ((with_reducible refine (HNM.out _).mono ?_); rintro e W ⟨rfl, rfl⟩))
                      go_at_call 59
                      with_reducible refine (HUQ.out _).mono ?_
                      rintro e W5 ⟨rfl, hb5⟩
                      have h9 := H9.out.drew hb5 H9.out.lt
                      obtain ⟨_, z1, _, _, _⟩ := five_at h9.1
                      have fz := h9.frz 1
                      have H9N := Lib.hid (h9.set (.string (bs t))).2
                      obtain ⟨Wz, hWz⟩ : ∃ Wz, W5.setCell ⟨q8, 1, none⟩ (.string (bs t)) = Wz := ⟨_, rfl⟩
                      rw [hWz] at H9N
                      clear h9 hb5 ck3 x0
                      obtain ⟨x0, x1, x2, x3, x4⟩ := five_at H9N.out.1
                      go_wp2_with (go_at_call 39; ((with_reducible refine (HKY.out _).mono ?_); rintro e W ⟨rfl, rfl⟩))
                      refine bodyPost_ret (results_tmp2 rfl _ _ _) rfl ?_
                      exact ParsePost.err HBAD.out (HB1.out.trans ((HBV.out.trans (H9N.out.2.mono HQW.out)).mono HB1.out.size))
                    | true =>
                      have hnp : nameP (codeW x) y = (0, ⟨codeW x, t, Vl.nil⟩) := by rw [HNP.out, hu]; simp only; rw [hk]; rfl
                      have hp2 := HP.out.name HX.out HY.out (by rw [← HCV.out]; exact HC1.out) (by rw [← HCV.out]; exact HC2.out) HNN.out (by rw [hnp])
                      rw [hnp, ← HCV.out] at hp2
                      have HP2 := Lib.hid hp2
                      have HKY : Hid (∀ W, Calls Tryz.prog 39 #[.string (bs t)] W fun e w' => e = .returned (.bool true) ∧ w' = W) := fun W => by rw [← hk]; exact refKey_any t W
                      clear hnp hp2 hu hv hk
                      go_wp2_with (go_at_call 38; ((with_reducible refine (HNM.out _).mono ?_); rintro e W ⟨rfl, rfl⟩))
                      go_at_call 59
                      with_reducible refine (HUQ.out _).mono ?_
                      rintro e W5 ⟨rfl, hb5⟩
                      have h9 := H9.out.drew hb5 H9.out.lt
                      obtain ⟨_, z1, _, _, _⟩ := five_at h9.1
                      have fz := h9.frz 1
                      have H9N := Lib.hid (h9.set (.string (bs t))).2
                      obtain ⟨Wz, hWz⟩ : ∃ Wz, W5.setCell ⟨q8, 1, none⟩ (.string (bs t)) = Wz := ⟨_, rfl⟩
                      rw [hWz] at H9N
                      clear h9 hb5 ck3 x0
                      obtain ⟨x0, x1, x2, x3, x4⟩ := five_at H9N.out.1
                      have HBX9 := Lib.hid (HBV.out.trans (H9N.out.2.mono HQW.out))
                      have HOW9 := Lib.hid (own_q HO.out HOQ.out H9N.out.2)
                      have HOA : Hid (World.ownsRow (Wz.alloc (.cells #[.int .i64 cv, .string (bs t), .int .i64 0, .float .f64 0, .string ⟨#[]⟩] 59)) w1.heap.size 59 5 (.slice ap out.length cp) out.length (flatE opCells out)) := World.ownsRow.alloc HOW9.out _
                      have HLA : Hid (Rd (Wz.alloc (.cells #[.int .i64 cv, .string (bs t), .int .i64 0, .float .f64 0, .string ⟨#[]⟩] 59)) (some ⟨Wz.heap.size, 0, none⟩) 1 1 5 (opCells ⟨cv, t, Vl.nil⟩)) := Rd.lone Wz #[.int .i64 cv, .string (bs t), .int .i64 0, .float .f64 0, .string ⟨#[]⟩] 5 rfl 59
                      go_wp2_with (first | (go_at_call 39; ((with_reducible refine (HKY.out _).mono ?_); rintro e W ⟨rfl, rfl⟩)) | (at_builtin; refine wpList_app SOp rfl (.tmp 91) (.tmp 93) rfl w1.heap.size rfl HOA.out rfl HLA.out (by simp [opCells, Value.oneCell']) (by omega) (by unfold maxLen; omega) (by have := HBX9.out.size; simp; omega) ?_))
                      intro v6 w6 hown6 hb6 _
                      have HO6 := Lib.hid (own_snoc ⟨cv, t, Vl.nil⟩ rfl hown6)
                      have HBV6 := Lib.hid ((HBX9.out.alloc HBX9.out.size _).trans hb6)
                      clear hown6 hb6
                      go_wp2_with fail
                      go_roundw
                      case rel => exact ⟨j + 2, _, by omega, by go_num, by simp; omega, HO6.out, HP2.out, HBV6.out⟩
                      case measure => simp [intOf]; omega
              · subst hn
                have hnn : namesC (codeW x) ≠ 0 := by rw [← HCV.out, HNE.out]; decide
                by_cases hend : j + 1 = nw
                · have HR := Lib.hid (ParsePost.err (w := w) (w' := wr) (parseP_bad HWS.out (HP.out.short HX.out (by have := HC1.out; have := HCV.out; omega) hnn (by rw [HNW.out]; exact hend.symm)) (by decide)) (HB1.out.trans (HBX.out.mono HB1.out.size)))
                  subst hend
                  clear hnn
                  go_wp2_with (go_at_call 38; ((with_reducible refine (HNM.out _).mono ?_); rintro e W ⟨rfl, rfl⟩))
                  refine bodyPost_ret (results_tmp2 rfl _ _ _) rfl ?_
                  exact HR.out
                · obtain ⟨y, hy⟩ : ∃ y, ws[j + 1]? = some y := ⟨_, List.getElem?_eq_getElem (by have := HNW.out; omega)⟩
                  obtain ⟨bk3, offk3, hk3, ck3⟩ := (HRD.out.below HBX.out).at hy
                  cases hk3
                  have HY := Lib.hid hy
                  have HYL : Hid (y.length ≤ 100000) := HXL.out y (List.mem_of_getElem? hy)
                  have HNN := Lib.hid hnn
                  have dne : decide (j + 1 = nw) = false := by simpa using hend
                  obtain ⟨p, hp⟩ : ∃ p, parseD y = p := ⟨_, rfl⟩
                  have hnp : nameP (codeW x) y = (p.e, ⟨codeW x, [], ⟨p.k, p.x, p.s⟩⟩) := by unfold nameP; rw [if_pos (by rw [← HCV.out, HNE.out]), hp]
                  have HPS : Hid (∀ W, Calls Tryz.prog 60 #[.string (bs y)] W fun e w' => e = .returned (.tuple #[.agg #[.int .i64 p.k, .float .f64 (fb p.x), .string (bs p.s)], .int .i64 p.e]) ∧ Below W.heap.size W w') := fun W => cparseR y HYL.out hp W
                  have HNP := Lib.hid hnp
                  clear hy hnn hp hnp
                  go_wp2_with (go_at_call 38; ((with_reducible refine (HNM.out _).mono ?_); rintro e W ⟨rfl, rfl⟩))
                  go_at_call 60
                  refine (HPS.out _).mono ?_
                  rintro e W5 ⟨rfl, hb5⟩
                  have h9 := H9.out.drew hb5 H9.out.lt
                  have h3o := st3o (there_rowo (o := 2) (m := 3) h9.1 (by simp)) (.int .i64 p.k) (.float .f64 (fb p.x))
                  simp only [Nat.reduceAdd] at h3o
                  obtain ⟨u0, u1, u2, a0, a1, a2, a3, a4, a5⟩ := h3o
                  have H9N := Lib.hid (h9.set3 (.int .i64 p.k) (.float .f64 (fb p.x)) (.string (bs p.s)))
                  obtain ⟨Wz, hWz⟩ : ∃ Wz, ((W5.setCell ⟨q8, 2, none⟩ (.int .i64 p.k)).setCell ⟨q8, 3, none⟩ (.float .f64 (fb p.x))).setCell ⟨q8, 4, none⟩ (.string (bs p.s)) = Wz := ⟨_, rfl⟩
                  rw [hWz] at H9N
                  clear h9 hb5 ck3 x0
                  obtain ⟨x0, x1, x2, x3, x4⟩ := five_at H9N.out.1
                  by_cases he0 : p.e = 0
                  · have hp2 := HP.out.name HX.out HY.out (by rw [← HCV.out]; exact HC1.out) (by rw [← HCV.out]; exact HC2.out) HNN.out (by rw [HNP.out]; exact he0)
                    rw [HNP.out, ← HCV.out] at hp2
                    have HP2 := Lib.hid hp2
                    have HBX9 := Lib.hid (HBV.out.trans (H9N.out.2.mono HQW.out))
                    have HOW9 := Lib.hid (own_q HO.out HOQ.out H9N.out.2)
                    rw [he0]
                    clear hp2
                    have HOA : Hid (World.ownsRow (Wz.alloc (.cells #[.int .i64 cv, .string ⟨#[]⟩, .int .i64 p.k, .float .f64 (fb p.x), .string (bs p.s)] 59)) w1.heap.size 59 5 (.slice ap out.length cp) out.length (flatE opCells out)) := World.ownsRow.alloc HOW9.out _
                    have HLA : Hid (Rd (Wz.alloc (.cells #[.int .i64 cv, .string ⟨#[]⟩, .int .i64 p.k, .float .f64 (fb p.x), .string (bs p.s)] 59)) (some ⟨Wz.heap.size, 0, none⟩) 1 1 5 (opCells ⟨cv, [], ⟨p.k, p.x, p.s⟩⟩)) := Rd.lone Wz #[.int .i64 cv, .string ⟨#[]⟩, .int .i64 p.k, .float .f64 (fb p.x), .string (bs p.s)] 5 rfl 59
                    go_wp2_with (at_builtin; refine wpList_app SOp rfl (.tmp 91) (.tmp 93) rfl w1.heap.size rfl HOA.out rfl HLA.out (by simp [opCells, Value.oneCell']) (by omega) (by unfold maxLen; omega) (by have := HBX9.out.size; simp; omega) ?_)
                    intro v6 w6 hown6 hb6 _
                    have HO6 := Lib.hid (own_snoc ⟨cv, [], ⟨p.k, p.x, p.s⟩⟩ rfl hown6)
                    have HBV6 := Lib.hid ((HBX9.out.alloc HBX9.out.size _).trans hb6)
                    clear hown6 hb6
                    go_wp2_with fail
                    go_roundw
                    case rel => exact ⟨j + 2, _, by omega, by go_num, by simp; omega, HO6.out, HP2.out, HBV6.out⟩
                    case measure => simp [intOf]; omega
                  · have hbad := parseP_bad HWS.out (HP.out.fail HX.out HY.out (by have := HC1.out; have := HCV.out; omega) HNN.out (by rw [HNP.out]; exact he0)) (by rw [HNP.out]; exact he0)
                    rw [HNP.out] at hbad
                    have HBAD := Lib.hid hbad
                    have he0b : (p.e != 0) = true := by simp [he0]
                    clear hbad he0
                    go_wp2_with fail
                    refine bodyPost_ret (results_tmp2 rfl _ _ _) rfl ?_
                    exact ParsePost.err HBAD.out (HB1.out.trans ((HBV.out.trans (H9N.out.2.mono HQW.out)).mono HB1.out.size))
      · obtain rfl : nw = j := by omega
        have hpg : parseGo ws = (0, out) := by
          have := HP.out
          rw [← HNW.out] at this
          exact this.last
        have hpp := parseP_chk HWS.out hpg
        have HCK := Lib.hid (check9_all _ _ _ out X9 (by
          obtain ⟨a9, c9, h9, hr9⟩ := OwnO5.rd HO.out
          injection h9 with i1 i2 i3
          subst i1 i3
          exact ⟨hr9, HP.out.2⟩))
        obtain ⟨ck, hck⟩ : ∃ ck, checkP out = ck := ⟨_, rfl⟩
        rw [hck] at HCK hpp
        by_cases h0 : ck = 0
        · subst h0
          rw [if_neg (by simp)] at hpp
          have HPP := Lib.hid hpp
          clear hck hpp hpg
          go_wp2_with fail
          go_at_call 17
          refine HCK.out.mono ?_
          rintro e w5 ⟨rfl, hb5⟩
          have HFIN : Hid (ParsePost w l (.returned (.tuple #[.slice ap out.length cp, .int .i64 0])) w5) := ⟨_, by rw [HPP.out], by rw [HPP.out]; exact ownsRow_mono (own_new HO.out hb5) HB1.out.size, HB.out.trans (hb5.mono HB.out.size)⟩
          clear hb5
          go_wp2_with fail
          refine bodyPost_ret (results_tmp2 rfl _ _ _) rfl ?_
          exact HFIN.out
        · rw [if_pos h0] at hpp
          have HPP := Lib.hid hpp
          have h0b : (ck != 0) = true := by simp [h0]
          clear hck hpp hpg h0
          go_wp2_with fail
          go_at_call 17
          refine HCK.out.mono ?_
          rintro e w5 ⟨rfl, hb5⟩
          have HFIN := Lib.hid (ParsePost.err (w := w) (w' := w5) HPP.out (HB.out.trans (hb5.mono HB.out.size)))
          clear hb5
          go_wp2_with fail
          refine bodyPost_ret (results_tmp2 rfl _ _ _) rfl ?_
          exact HFIN.out
end Go.Proofs.YtalpbphfmelhhaaGreatDoor
