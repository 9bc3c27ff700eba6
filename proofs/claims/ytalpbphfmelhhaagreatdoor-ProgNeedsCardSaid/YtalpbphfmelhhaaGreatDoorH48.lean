/-
  The walk of ProgNeeds. Written by a program (lw9.py).
-/
import Derived.Test.YtalpbphfmelhhaaGreatDoorH46
namespace Go.Proofs.YtalpbphfmelhhaaGreatDoor
open Go.RowKit Go.Maps Go.Sort
set_option maxRecDepth 100000
attribute [local go_sem] bs_size bs_get bs_toList frombits tobits run_store_float
set_option maxHeartbeats 16000000 in
theorem progNeeds_walk (a : Option Addr) (n cap : Nat) (l : List OpP) (b : Option Addr) (m capb : Nat) (sn : List SnP)  (w : World) (h : RdOr w a n cap l) (h1 : RdS w b m capb sn)  (hT : Laid w) : Calls Tryz.prog 9 #[.slice a n cap, .slice b m capb] w fun e w' => e = .returned (.bool true) ∧ Below w.heap.size w w' := by
  have HK := Lib.hid (Kp.start hT)
  clear hT
  obtain rfl : n = l.length := h.rd.1
  obtain rfl : m = sn.length := h1.rd.1
  have HR := Lib.hid h
  have HS := Lib.hid h1
  clear h h1
  go_enter Tryz.func9, Tryz.ntmps9
  go_wp2_with fail
  go_at_call 11
  refine (first9_any _ HK.out.laid).mono ?_
  rintro e W1 ⟨rfl, hb⟩
  replace HK := Lib.hid (HK.out.next hb)
  replace HR := Lib.hid (HR.out.below hb)
  replace HS := Lib.hid (HS.out.below hb)
  clear hb
  go_wp2_with fail
  go_at_call 12
  refine (fewO_any a l.length cap l _ HR.out).mono ?_
  rintro e W2 ⟨b, rfl, hfew, hb⟩
  replace HK := Lib.hid (HK.out.next hb)
  replace HR := Lib.hid (HR.out.below hb)
  replace HS := Lib.hid (HS.out.below hb)
  clear hb
  cases b with
  | false =>
    clear hfew
    go_wp2_with fail
    go_at_call 11
    refine (first9_any _ HK.out.laid).mono ?_
    rintro e W3 ⟨rfl, hb⟩
    replace HK := Lib.hid (HK.out.next hb)
    replace HR := Lib.hid (HR.out.below hb)
    replace HS := Lib.hid (HS.out.below hb)
    clear hb
    go_wp2_with fail
    go_ret
    exact ⟨rfl, HK.out.below⟩
  | true =>
    have HF := Lib.hid (hfew rfl)
    have HP := Lib.hid (HR.out.few HF.out)
    have hn : l.length ≤ 1000 := Nat.le_trans HF.out.1 (by decide)
    clear hfew
    go_wp2_with fail
    go_at_call 22
    refine (fewSeen_any b sn.length capb sn _ HS.out).mono ?_
    rintro e W4 ⟨b, rfl, hfs, hb⟩
    replace HK := Lib.hid (HK.out.next hb)
    replace HR := Lib.hid (HR.out.below hb)
    replace HS := Lib.hid (HS.out.below hb)
    replace HP := Lib.hid (HP.out.below hb)
    clear hb
    cases b with
    | false =>
      clear hfs
      go_wp2_with fail
      go_at_call 11
      refine (first9_any _ HK.out.laid).mono ?_
      rintro e W5 ⟨rfl, hb⟩
      replace HK := Lib.hid (HK.out.next hb)
      replace HR := Lib.hid (HR.out.below hb)
      replace HS := Lib.hid (HS.out.below hb)
      replace HP := Lib.hid (HP.out.below hb)
      clear hb
      go_wp2_with fail
      go_ret
      exact ⟨rfl, HK.out.below⟩
    | true =>
      have hsn : sn.length ≤ 1000 := Nat.le_trans (hfs rfl) (by decide)
      clear hfs
      by_cases h38 : 38 < l.length
      · have d1 : decide ((38 : Int) < (l.length : Int)) = true := decide_eq_true (by omega)
        go_wp2_with fail
        go_at_call 11
        refine (first9_any _ HK.out.laid).mono ?_
        rintro e W6 ⟨rfl, hb⟩
        replace HK := Lib.hid (HK.out.next hb)
        replace HR := Lib.hid (HR.out.below hb)
        replace HS := Lib.hid (HS.out.below hb)
        replace HP := Lib.hid (HP.out.below hb)
        clear hb
        go_wp2_with fail
        go_ret
        exact ⟨rfl, HK.out.below⟩
      · have d1 : decide ((38 : Int) < (l.length : Int)) = false := decide_eq_false (by omega)
        go_wp2_with fail
        go_at_call 24
        refine (run_any a l.length cap l b sn.length capb sn _ HP.out HS.out (by omega)).mono ?_
        rintro e W7 ⟨v, rfl, ho, hb⟩
        obtain ⟨aw, cw, rfl, hrw⟩ := Rd.of_own ho
        have HW1 : Hid (RdE wrCells 4 W7 aw (runW l sn).length cw (runW l sn)) := ⟨rfl, hrw⟩
        clear ho hrw
        replace HK := Lib.hid (HK.out.next hb)
        replace HR := Lib.hid (HR.out.below hb)
        replace HS := Lib.hid (HS.out.below hb)
        replace HP := Lib.hid (HP.out.below hb)
        clear hb
        by_cases he : runE l sn = 0
        case neg =>
          have hl0 : (runW l sn).length = 0 := by rw [runW_err he]; rfl
          have heb : (runE l sn != 0) = true := by simp [he]
          rw [hl0]
          generalize runE l sn = er at heb
          clear he hl0
          go_wp2_with fail
          go_at_call 11
          refine (first9_any _ HK.out.laid).mono ?_
          rintro e W8 ⟨rfl, hb⟩
          replace HK := Lib.hid (HK.out.next hb)
          replace HR := Lib.hid (HR.out.below hb)
          replace HS := Lib.hid (HS.out.below hb)
          replace HP := Lib.hid (HP.out.below hb)
          replace HW1 := Lib.hid (HW1.out.below hb)
          clear hb
          go_wp2_with fail
          go_ret
          exact ⟨rfl, HK.out.below⟩
        case pos =>
          have HE := Lib.hid he
          rw [he]
          clear he
          rename World => Wb1
          go_wp2_with fail
          go_at_call 13
          refine (copyOps_any a l.length cap l _ HP.out (by omega)).mono ?_
          rintro e W9 ⟨v, rfl, ho, hb⟩
          obtain ⟨ai, ci, hv, _⟩ := OwnO5.rd ho
          subst hv
          have hsz9 := hb.size
          have hoa := World.ownsRow.alloc ho (.cells #[.int .i64 4, .string ⟨#[]⟩, .int .i64 1, .float .f64 0, .string ⟨#[]⟩, .int .i64 13, .string ⟨#[]⟩, .int .i64 0, .float .f64 0, .string ⟨#[]⟩] 59)
          have HOA := Lib.hid hoa
          have HLA : Hid (Rd (W9.alloc (.cells #[.int .i64 4, .string ⟨#[]⟩, .int .i64 1, .float .f64 0, .string ⟨#[]⟩, .int .i64 13, .string ⟨#[]⟩, .int .i64 0, .float .f64 0, .string ⟨#[]⟩] 59)) (some ⟨W9.heap.size, 0, none⟩) 2 2 5 (flatE opCells [pushN 0, needN])) := Rd.lits W9 #[.int .i64 4, .string ⟨#[]⟩, .int .i64 1, .float .f64 0, .string ⟨#[]⟩, .int .i64 13, .string ⟨#[]⟩, .int .i64 0, .float .f64 0, .string ⟨#[]⟩] 2 5 rfl (by decide) 59
          have HBA := Lib.hid (hb.alloc hsz9 (.cells #[.int .i64 4, .string ⟨#[]⟩, .int .i64 1, .float .f64 0, .string ⟨#[]⟩, .int .i64 13, .string ⟨#[]⟩, .int .i64 0, .float .f64 0, .string ⟨#[]⟩] 59))
          clear ho hoa hb
          go_wp2_with (at_builtin; refine wpList_app SOp rfl (.tmp 44) (.tmp 48) rfl Wb1.heap.size rfl HOA.out rfl HLA.out (by simp [flatE, opCells, Value.oneCell']) (by omega) (by unfold maxLen; omega) HBA.out.size ?_)
          intro v6 W6 hown6 hb6 _
          have hb := HBA.out.trans hb6
          have ho6 : OwnO5 W6 Wb1.heap.size v6 (l ++ [pushN 0, needN]) := by
            show World.ownsRow _ _ _ _ _ _ _
            rw [List.length_append, flatE_append]
            exact hown6
          obtain ⟨an, cn, rfl, hri⟩ := OwnO5.rd ho6
          have hl2 : (l ++ [pushN 0, needN]).length = l.length + 2 := by simp
          rw [hl2] at hri ⊢
          have HNO : Hid (RdO W6 an (l.length + 2) cn (l ++ [pushN 0, needN])) := ⟨hri, fun o ho => by
            rcases List.mem_append.1 ho with ho | ho
            · exact HP.out.ok o ho
            · simp only [List.mem_cons, List.not_mem_nil, or_false] at ho
              rcases ho with rfl | rfl
              · exact ⟨by decide, by decide, by simp [pushN], by simp [pushN]⟩
              · exact ⟨by decide, by decide, by simp [needN], by simp [needN, Vl.nil]⟩⟩
          clear HBA HOA HLA hown6 hb6 ho6 hri hsz9 hl2
          replace HK := Lib.hid (HK.out.next hb)
          replace HR := Lib.hid (HR.out.below hb)
          replace HS := Lib.hid (HS.out.below hb)
          replace HP := Lib.hid (HP.out.below hb)
          replace HW1 := Lib.hid (HW1.out.below hb)
          clear hb
          rename World => Wb2
          go_wp2_with fail
          go_at_call 13
          refine (copyOps_any a l.length cap l _ HP.out (by omega)).mono ?_
          rintro e W10 ⟨v, rfl, ho, hb⟩
          obtain ⟨ai, ci, hv, _⟩ := OwnO5.rd ho
          subst hv
          have hsz9 := hb.size
          have hoa := World.ownsRow.alloc ho (.cells #[.int .i64 4, .string ⟨#[]⟩, .int .i64 1, .float .f64 4607182418800017408, .string ⟨#[]⟩, .int .i64 13, .string ⟨#[]⟩, .int .i64 0, .float .f64 0, .string ⟨#[]⟩] 59)
          have HOA := Lib.hid hoa
          have HLA : Hid (Rd (W10.alloc (.cells #[.int .i64 4, .string ⟨#[]⟩, .int .i64 1, .float .f64 4607182418800017408, .string ⟨#[]⟩, .int .i64 13, .string ⟨#[]⟩, .int .i64 0, .float .f64 0, .string ⟨#[]⟩] 59)) (some ⟨W10.heap.size, 0, none⟩) 2 2 5 (flatE opCells [pushN 4607182418800017408, needN])) := Rd.lits W10 #[.int .i64 4, .string ⟨#[]⟩, .int .i64 1, .float .f64 4607182418800017408, .string ⟨#[]⟩, .int .i64 13, .string ⟨#[]⟩, .int .i64 0, .float .f64 0, .string ⟨#[]⟩] 2 5 rfl (by decide) 59
          have HBA := Lib.hid (hb.alloc hsz9 (.cells #[.int .i64 4, .string ⟨#[]⟩, .int .i64 1, .float .f64 4607182418800017408, .string ⟨#[]⟩, .int .i64 13, .string ⟨#[]⟩, .int .i64 0, .float .f64 0, .string ⟨#[]⟩] 59))
          clear ho hoa hb
          go_wp2_with (at_builtin; refine wpList_app SOp rfl (.tmp 51) (.tmp 55) rfl Wb2.heap.size rfl HOA.out rfl HLA.out (by simp [flatE, opCells, Value.oneCell']) (by omega) (by unfold maxLen; omega) HBA.out.size ?_)
          intro v6 W6 hown6 hb6 _
          have hb := HBA.out.trans hb6
          have ho6 : OwnO5 W6 Wb2.heap.size v6 (l ++ [pushN 4607182418800017408, needN]) := by
            show World.ownsRow _ _ _ _ _ _ _
            rw [List.length_append, flatE_append]
            exact hown6
          obtain ⟨ay, cy, rfl, hri⟩ := OwnO5.rd ho6
          have hl2 : (l ++ [pushN 4607182418800017408, needN]).length = l.length + 2 := by simp
          rw [hl2] at hri ⊢
          have HYE : Hid (RdO W6 ay (l.length + 2) cy (l ++ [pushN 4607182418800017408, needN])) := ⟨hri, fun o ho => by
            rcases List.mem_append.1 ho with ho | ho
            · exact HP.out.ok o ho
            · simp only [List.mem_cons, List.not_mem_nil, or_false] at ho
              rcases ho with rfl | rfl
              · exact ⟨by decide, by decide, by simp [pushN], by simp [pushN]⟩
              · exact ⟨by decide, by decide, by simp [needN], by simp [needN, Vl.nil]⟩⟩
          clear HBA HOA HLA hown6 hb6 ho6 hri hsz9 hl2
          replace HK := Lib.hid (HK.out.next hb)
          replace HR := Lib.hid (HR.out.below hb)
          replace HS := Lib.hid (HS.out.below hb)
          replace HP := Lib.hid (HP.out.below hb)
          replace HW1 := Lib.hid (HW1.out.below hb)
          replace HNO := Lib.hid (HNO.out.below hb)
          clear hb
          have hck := needs_check (x := 0) (by decide +kernel) (run_check HE.out) (by omega)
          obtain ⟨ck, hcke⟩ : ∃ ck, checkP (l ++ [pushN 0, needN]) = ck := ⟨_, rfl⟩
          have HCN := Lib.hid (check_all an (l.length + 2) cn (l ++ [pushN 0, needN]))
          rw [hcke] at HCN
          have HCE := Lib.hid hcke
          rw [hcke] at hck
          by_cases hc0 : ck = 0
          case neg =>
            have hc2 : ck = 2 := by
              rw [hck] at hc0 ⊢
              split at hc0
              · rename_i h; rw [if_pos h]
              · exact absurd rfl hc0
            subst hc2
            clear hck hc0 hcke
            go_wp2_with fail
            go_at_call 16
            refine (HCN.out _ HNO.out).mono ?_
            rintro e W11 ⟨rfl, hb⟩
            replace HK := Lib.hid (HK.out.next hb)
            replace HR := Lib.hid (HR.out.below hb)
            replace HS := Lib.hid (HS.out.below hb)
            replace HP := Lib.hid (HP.out.below hb)
            replace HW1 := Lib.hid (HW1.out.below hb)
            replace HNO := Lib.hid (HNO.out.below hb)
            replace HYE := Lib.hid (HYE.out.below hb)
            clear hb
            go_wp2_with fail
            go_at_call 11
            refine (first9_any _ HK.out.laid).mono ?_
            rintro e W12 ⟨rfl, hb⟩
            replace HK := Lib.hid (HK.out.next hb)
            replace HR := Lib.hid (HR.out.below hb)
            replace HS := Lib.hid (HS.out.below hb)
            replace HP := Lib.hid (HP.out.below hb)
            replace HW1 := Lib.hid (HW1.out.below hb)
            replace HNO := Lib.hid (HNO.out.below hb)
            replace HYE := Lib.hid (HYE.out.below hb)
            clear hb
            go_wp2_with fail
            go_at_call 16
            refine (HCN.out _ HNO.out).mono ?_
            rintro e W13 ⟨rfl, hb⟩
            replace HK := Lib.hid (HK.out.next hb)
            replace HR := Lib.hid (HR.out.below hb)
            replace HS := Lib.hid (HS.out.below hb)
            replace HP := Lib.hid (HP.out.below hb)
            replace HW1 := Lib.hid (HW1.out.below hb)
            replace HNO := Lib.hid (HNO.out.below hb)
            replace HYE := Lib.hid (HYE.out.below hb)
            clear hb
            go_wp2_with fail
            go_ret
            exact ⟨rfl, HK.out.below⟩
          case pos =>
            subst hc0
            have hh : ¬ 16 < hgtP l 0 + 1 := fun h => by rw [if_pos h] at hck; cases hck
            have hcy := needs_check (x := 4607182418800017408) (by decide +kernel) (run_check HE.out) (by omega)
            rw [if_neg hh] at hcy
            have hn1 : runE (l ++ [pushN 0, needN]) sn = 22 ∧ runW (l ++ [pushN 0, needN]) sn = [] := needs_run (sn := sn) (x := 0) (by decide +kernel) HE.out (by omega) HCE.out false holds_no
            have hy1 : runE (l ++ [pushN 4607182418800017408, needN]) sn = 0 ∧ runW (l ++ [pushN 4607182418800017408, needN]) sn = runW l sn := needs_run (sn := sn) (x := 4607182418800017408) (by decide +kernel) HE.out (by omega) hcy true holds_yes
            have HN1 := Lib.hid hn1
            have HY1 := Lib.hid hy1
            clear hck hcke hh hcy hn1 hy1
            go_wp2_with fail
            go_at_call 16
            refine (HCN.out _ HNO.out).mono ?_
            rintro e W14 ⟨rfl, hb⟩
            replace HK := Lib.hid (HK.out.next hb)
            replace HR := Lib.hid (HR.out.below hb)
            replace HS := Lib.hid (HS.out.below hb)
            replace HP := Lib.hid (HP.out.below hb)
            replace HW1 := Lib.hid (HW1.out.below hb)
            replace HNO := Lib.hid (HNO.out.below hb)
            replace HYE := Lib.hid (HYE.out.below hb)
            clear hb
            go_wp2_with fail
            go_at_call 24
            refine (run_any an (l.length + 2) cn (l ++ [pushN 0, needN]) b sn.length capb sn _ HNO.out HS.out (by omega)).mono ?_
            rintro e W15 ⟨v, rfl, ho, hb⟩
            rw [HN1.out.1]
            rw [HN1.out.2] at ho
            obtain ⟨ax, cx, rfl, hrw⟩ := Rd.of_own ho
            have HW2 : Hid (RdE wrCells 4 W15 ax ([] : List (List UInt8 × Vl)).length cx ([] : List (List UInt8 × Vl))) := ⟨rfl, hrw⟩
            clear ho hrw
            replace HK := Lib.hid (HK.out.next hb)
            replace HR := Lib.hid (HR.out.below hb)
            replace HS := Lib.hid (HS.out.below hb)
            replace HP := Lib.hid (HP.out.below hb)
            replace HW1 := Lib.hid (HW1.out.below hb)
            replace HNO := Lib.hid (HNO.out.below hb)
            replace HYE := Lib.hid (HYE.out.below hb)
            clear hb
            go_wp2_with fail
            go_at_call 24
            refine (run_any ay (l.length + 2) cy (l ++ [pushN 4607182418800017408, needN]) b sn.length capb sn _ HYE.out HS.out (by omega)).mono ?_
            rintro e W16 ⟨v, rfl, ho, hb⟩
            rw [HY1.out.1]
            rw [HY1.out.2] at ho
            obtain ⟨az, cz, rfl, hrw⟩ := Rd.of_own ho
            have HW3 : Hid (RdE wrCells 4 W16 az (runW l sn).length cz (runW l sn)) := ⟨rfl, hrw⟩
            clear ho hrw
            replace HK := Lib.hid (HK.out.next hb)
            replace HR := Lib.hid (HR.out.below hb)
            replace HS := Lib.hid (HS.out.below hb)
            replace HP := Lib.hid (HP.out.below hb)
            replace HW1 := Lib.hid (HW1.out.below hb)
            replace HNO := Lib.hid (HNO.out.below hb)
            replace HYE := Lib.hid (HYE.out.below hb)
            replace HW2 := Lib.hid (HW2.out.below hb)
            clear hb
            go_wp2_with fail
            go_at_call 11
            refine (first9_any _ HK.out.laid).mono ?_
            rintro e W17 ⟨rfl, hb⟩
            replace HK := Lib.hid (HK.out.next hb)
            replace HR := Lib.hid (HR.out.below hb)
            replace HS := Lib.hid (HS.out.below hb)
            replace HP := Lib.hid (HP.out.below hb)
            replace HW1 := Lib.hid (HW1.out.below hb)
            replace HNO := Lib.hid (HNO.out.below hb)
            replace HYE := Lib.hid (HYE.out.below hb)
            replace HW2 := Lib.hid (HW2.out.below hb)
            replace HW3 := Lib.hid (HW3.out.below hb)
            clear hb
            go_wp2_with fail
            go_at_call 26
            refine (writes_same _ _ _ _ _ _ _ HW3.out HW1.out (by first | exact runW_len _ _ | simp)).mono ?_
            rintro e W18 ⟨rfl, hb⟩
            replace HK := Lib.hid (HK.out.next hb)
            replace HR := Lib.hid (HR.out.below hb)
            replace HS := Lib.hid (HS.out.below hb)
            replace HP := Lib.hid (HP.out.below hb)
            replace HW1 := Lib.hid (HW1.out.below hb)
            replace HNO := Lib.hid (HNO.out.below hb)
            replace HYE := Lib.hid (HYE.out.below hb)
            replace HW2 := Lib.hid (HW2.out.below hb)
            replace HW3 := Lib.hid (HW3.out.below hb)
            clear hb
            go_wp2_with fail
            go_ret
            exact ⟨rfl, HK.out.below⟩
end Go.Proofs.YtalpbphfmelhhaaGreatDoor
