/-
  The walk of ProgReads. Written by a program (lw9.py).
-/
import Derived.Test.YtalpbphfmelhhaaGreatDoorH51
namespace Go.Proofs.YtalpbphfmelhhaaGreatDoor
open Go.RowKit Go.Maps Go.Sort
set_option maxRecDepth 100000
attribute [local go_sem] bs_size bs_get bs_toList frombits tobits run_store_float
theorem cell_below {W W' : World} {a : Addr} {v : Value} (h : W.cell? a = some v) (hb : Below W.heap.size W W') : W'.cell? a = some v := (hb.cell (p := a) (World.block_lt_of_cell? _ _ h)).trans h
set_option maxHeartbeats 16000000 in
theorem progReads_walk (a : Option Addr) (n cap : Nat) (l : List OpP) (b : Option Addr) (m capb : Nat) (sn : List SnP) (b2 : Option Addr) (m2 capb2 : Nat) (mo : List SnP) (w : World) (h : RdOr w a n cap l) (h1 : RdS w b m capb sn) (h2 : RdS w b2 m2 capb2 mo) (hT : Laid w) : Calls Tryz.prog 7 #[.slice a n cap, .slice b m capb, .slice b2 m2 capb2] w fun e w' => e = .returned (.bool true) ∧ Below w.heap.size w w' := by
  have HK := Lib.hid (Kp.start hT)
  clear hT
  obtain rfl : n = l.length := h.rd.1
  obtain rfl : m = sn.length := h1.rd.1
  obtain rfl : m2 = mo.length := h2.rd.1
  have HR := Lib.hid h
  have HS := Lib.hid h1
  have HM := Lib.hid h2
  clear h h1 h2
  go_enter Tryz.func7, Tryz.ntmps7
  go_wp2_with fail
  go_at_call 11
  refine (first9_any _ HK.out.laid).mono ?_
  rintro e W1 ⟨rfl, hb⟩
  replace HK := Lib.hid (HK.out.next hb)
  replace HR := Lib.hid (HR.out.below hb)
  replace HS := Lib.hid (HS.out.below hb)
  replace HM := Lib.hid (HM.out.below hb)
  clear hb
  go_wp2_with fail
  go_at_call 12
  refine (fewO_any a l.length cap l _ HR.out).mono ?_
  rintro e W2 ⟨b, rfl, hfew, hb⟩
  replace HK := Lib.hid (HK.out.next hb)
  replace HR := Lib.hid (HR.out.below hb)
  replace HS := Lib.hid (HS.out.below hb)
  replace HM := Lib.hid (HM.out.below hb)
  clear hb
  cases b with
  | false =>
    clear hfew
    go_wp2_with fail
    go_at_call 11
    refine (first9_any _ HK.out.laid).mono ?_
    rintro e W3 ⟨rfl, hb⟩
    replace HK := Lib.hid (HK.out.next hb)
    replace HR := Lib.hid (HR.out.below hb)
    replace HS := Lib.hid (HS.out.below hb)
    replace HM := Lib.hid (HM.out.below hb)
    clear hb
    go_wp2_with fail
    go_ret
    exact ⟨rfl, HK.out.below⟩
  | true =>
    have HF := Lib.hid (hfew rfl)
    have HP := Lib.hid (HR.out.few HF.out)
    have hn : l.length ≤ 1000 := Nat.le_trans HF.out.1 (by decide)
    clear hfew
    go_wp2_with fail
    go_at_call 22
    refine (fewSeen_any b sn.length capb sn _ HS.out).mono ?_
    rintro e W4 ⟨b, rfl, hfs, hb⟩
    replace HK := Lib.hid (HK.out.next hb)
    replace HR := Lib.hid (HR.out.below hb)
    replace HS := Lib.hid (HS.out.below hb)
    replace HM := Lib.hid (HM.out.below hb)
    replace HP := Lib.hid (HP.out.below hb)
    clear hb
    cases b with
    | false =>
      clear hfs
      go_wp2_with fail
      go_at_call 11
      refine (first9_any _ HK.out.laid).mono ?_
      rintro e W5 ⟨rfl, hb⟩
      replace HK := Lib.hid (HK.out.next hb)
      replace HR := Lib.hid (HR.out.below hb)
      replace HS := Lib.hid (HS.out.below hb)
      replace HM := Lib.hid (HM.out.below hb)
      replace HP := Lib.hid (HP.out.below hb)
      clear hb
      go_wp2_with fail
      go_ret
      exact ⟨rfl, HK.out.below⟩
    | true =>
      have hsn : sn.length ≤ 1000 := Nat.le_trans (hfs rfl) (by decide)
      clear hfs
      have hsl := hsn
      go_wp2_with fail
      go_at_call 22
      refine (fewSeen_any b2 mo.length capb2 mo _ HM.out).mono ?_
      rintro e W6 ⟨b, rfl, hfs, hb⟩
      replace HK := Lib.hid (HK.out.next hb)
      replace HR := Lib.hid (HR.out.below hb)
      replace HS := Lib.hid (HS.out.below hb)
      replace HM := Lib.hid (HM.out.below hb)
      replace HP := Lib.hid (HP.out.below hb)
      clear hb
      cases b with
      | false =>
        clear hfs
        go_wp2_with fail
        go_at_call 11
        refine (first9_any _ HK.out.laid).mono ?_
        rintro e W7 ⟨rfl, hb⟩
        replace HK := Lib.hid (HK.out.next hb)
        replace HR := Lib.hid (HR.out.below hb)
        replace HS := Lib.hid (HS.out.below hb)
        replace HM := Lib.hid (HM.out.below hb)
        replace HP := Lib.hid (HP.out.below hb)
        clear hb
        go_wp2_with fail
        go_ret
        exact ⟨rfl, HK.out.below⟩
      | true =>
        have hsn : mo.length ≤ 1000 := Nat.le_trans (hfs rfl) (by decide)
        clear hfs
        go_wp2_with fail
        go_at_call 14
        refine (reads_any a l.length cap l _ HP.out (by omega)).mono ?_
        rintro e W8 ⟨v, rfl, ho, hb⟩
        obtain ⟨ak, ck, rfl, hrk⟩ := OwnK.rd ho
        have HKA := Lib.hid hrk
        clear ho hrk
        replace HK := Lib.hid (HK.out.next hb)
        replace HR := Lib.hid (HR.out.below hb)
        replace HS := Lib.hid (HS.out.below hb)
        replace HM := Lib.hid (HM.out.below hb)
        replace HP := Lib.hid (HP.out.below hb)
        clear hb
        go_wp2_with fail
        go_at_call 15
        refine (names_any a l.length cap l _ HP.out (by omega)).mono ?_
        rintro e W9 ⟨v, rfl, ho, hb⟩
        obtain ⟨ak2, ck2, rfl, hrk⟩ := OwnK.rd ho
        have HKB := Lib.hid hrk
        clear ho hrk
        replace HK := Lib.hid (HK.out.next hb)
        replace HR := Lib.hid (HR.out.below hb)
        replace HS := Lib.hid (HS.out.below hb)
        replace HM := Lib.hid (HM.out.below hb)
        replace HP := Lib.hid (HP.out.below hb)
        replace HKA := Lib.hid (HKA.out.below hb)
        clear hb
        have hrl : (readsP l).length ≤ 1000 := Nat.le_trans (namedP_length 1 1 l) (by omega)
        have hnl : (namesP l).length ≤ 1000 := Nat.le_trans (namedP_length 2 3 l) (by omega)
        obtain ⟨ks, hks⟩ : ∃ ks, readsP l = ks := ⟨_, rfl⟩
        rw [hks] at HKA hrl ⊢
        have HKS := Lib.hid hks
        clear hks
        have K9 := HK
        have S9x := HS
        have M9 := HM
        have P9 := HP
        have A9 := HKA
        have B9 := HKB
        go_wp2_with fail
        go_loopw [9, 10] (fun v i WZ => ∃ j : Nat, j ≤ mo.length ∧ i = .int .i64 (j : Nat) ∧ Hid (OwnS WZ W9.heap.size v (otherP ks (mo.take j))) ∧ Hid (Below W9.heap.size W9 WZ)) (fun _ i _ => mo.length - (intOf i).toNat)
        case atStart => exact ⟨0, Nat.zero_le _, rfl, OwnS.nil _ _, Below.refl _ _⟩
        case round =>
          obtain ⟨j, hj, rfl, HO, HBV⟩ := hrel
          obtain ⟨av, cv, rfl, _⟩ := OwnS.rd HO.out
          have hol : (otherP ks (mo.take j)).length ≤ 1000 := by
            have h1 : (otherP ks (mo.take j)).length ≤ (mo.take j).length := List.length_filter_le _ _
            rw [List.length_take] at h1; omega
          by_cases hlt : j < mo.length
          · obtain ⟨s, hs⟩ : ∃ s, mo[j]? = some s := ⟨_, List.getElem?_eq_getElem hlt⟩
            obtain ⟨bm, offm, rfl, c0, c1, c2, c3, c4, c5, c6⟩ := (HM.out.below HBV.out).rd.at7 hs
            have HSN := Lib.hid (other_snoc (ks := ks) hs)
            have HHS := Lib.hid (has_any ak ks.length ck ks s.key wr (HKA.out.below HBV.out))
            clear hs
            cases hh : (ks.any fun k => k == s.key) with
            | true =>
              rw [hh] at HHS
              have HO2 : Hid (OwnS wr W9.heap.size (.slice av (otherP ks (mo.take j)).length cv) (otherP ks (mo.take (j + 1)))) := by show OwnS _ _ _ _; rw [HSN.out, hh, if_pos rfl]; exact HO.out
              clear hh
              go_wp2_with fail
              go_at_call 32
              refine (HHS.out).mono ?_
              rintro e W ⟨rfl, rfl⟩
              go_wp2_with fail
              go_roundw
              case rel => exact ⟨j + 1, by omega, by go_num, HO2.out, HBV.out⟩
              case measure => simp [intOf]; omega
            | false =>
              rw [hh] at HHS
              have HE2 : Hid (otherP ks (mo.take (j + 1)) = otherP ks (mo.take j) ++ [s]) := by show _ = _; rw [HSN.out, hh]; rfl
              obtain ⟨out, hout⟩ : ∃ out, otherP ks (mo.take j) = out := ⟨_, rfl⟩
              rw [hout] at HO HE2 hol ⊢
              have HO1 : Hid (World.ownsRow (wr.alloc (.cells #[.string (bs s.key), .int .i64 s.v.k, .float .f64 (fb s.v.x), .string (bs s.v.s), .int .i64 s.w, .int .i64 s.l, .int .i64 s.n] 52)) W9.heap.size 52 7 (.slice av out.length cv) out.length (flatE snCells out)) := World.ownsRow.alloc HO.out _
              have HLN : Hid (Rd (wr.alloc (.cells #[.string (bs s.key), .int .i64 s.v.k, .float .f64 (fb s.v.x), .string (bs s.v.s), .int .i64 s.w, .int .i64 s.l, .int .i64 s.n] 52)) (some ⟨wr.heap.size, 0, none⟩) 1 1 7 (snCells s)) := Rd.lone wr #[.string (bs s.key), .int .i64 s.v.k, .float .f64 (fb s.v.x), .string (bs s.v.s), .int .i64 s.w, .int .i64 s.l, .int .i64 s.n] 7 rfl 52
              clear hh hout
              go_wp2_with fail
              go_at_call 32
              refine (HHS.out).mono ?_
              rintro e W ⟨rfl, rfl⟩
              go_wp2_with (at_builtin; refine wpList_app SSn rfl (.tmp 53) (.tmp 58) rfl W9.heap.size rfl HO1.out rfl HLN.out (snCells_one s) (by omega) (by unfold maxLen; omega) (by have := HBV.out.size; simp; omega) ?_)
              intro v5 w5 hown5 hb5 _
              have HO5 : Hid (OwnS w5 W9.heap.size v5 (otherP ks (mo.take (j + 1)))) := by show OwnS _ _ _ _; rw [HE2.out]; exact own_snocS s rfl hown5
              have HB5 := Lib.hid ((HBV.out.alloc HBV.out.size _).trans hb5)
              clear hown5 hb5
              go_wp2_with fail
              go_roundw
              case rel => exact ⟨j + 1, by omega, by go_num, HO5.out, HB5.out⟩
              case measure => simp [intOf]; omega
          · obtain rfl : mo.length = j := by omega
            rw [List.take_length] at HO hol ⊢
            have hb := HBV.out
            rename World => Wx
            replace HK := Lib.hid (HK.out.next hb)
            replace HR := Lib.hid (HR.out.below hb)
            replace HS := Lib.hid (HS.out.below hb)
            replace HM := Lib.hid (HM.out.below hb)
            replace HP := Lib.hid (HP.out.below hb)
            replace HKA := Lib.hid (HKA.out.below hb)
            replace HKB := Lib.hid (HKB.out.below hb)
            clear hb
            have HBZ : Hid (BlG W9 Wx) := HBV.out
            clear HBV
            obtain ⟨oth, hoth⟩ : ∃ oth, otherP ks mo = oth := ⟨_, rfl⟩
            rw [hoth] at HO hol ⊢
            have HOT := Lib.hid hoth
            clear hoth
            go_wp2_with fail
            go_loopw [11, 12, 13] (fun v i _ WZ => ∃ j : Nat, j ≤ ks.length ∧ i = .int .i64 (j : Nat) ∧ Hid (OwnS WZ Wx.heap.size v (turnP (ks.reverse.take j) sn)) ∧ Hid (Below Wx.heap.size Wx WZ)) (fun _ i _ _ => ks.length - (intOf i).toNat)
            case atStart => exact ⟨0, Nat.zero_le _, rfl, OwnS.nil _ _, Below.refl _ _⟩
            case round =>
              obtain ⟨i, hi, rfl, HO2, HBX⟩ := hrel
              by_cases hlt : i < ks.length
              · obtain ⟨y, hy⟩ : ∃ y, ks.reverse[i]? = some y := ⟨_, List.getElem?_eq_getElem (by rw [List.length_reverse]; exact hlt)⟩
                obtain ⟨r, hr⟩ : ∃ r, ks.length - 1 - i = r := ⟨_, rfl⟩
                have hyr : ks[r]? = some y := by rw [← hr, ← rev_at hlt]; exact hy
                have hrk : r < ks.length := by omega
                have hw1 : IntKind.i64.wrap ((ks.length : Int) - 1) = (ks.length : Int) - 1 := IntWalk.i64_in _ (by omega)
                have hw2 : IntKind.i64.wrap ((ks.length : Int) - 1 - (i : Int)) = (r : Int) := by rw [IntWalk.i64_in _ (by omega)]; omega
                have hw3 : (r : Int) < (ks.length : Int) := by omega
                have HTS := Lib.hid (turn_snoc (sn := sn) hy)
                have HYR := Lib.hid hyr
                obtain ⟨ad, cd, rfl, _⟩ := OwnS.rd HO2.out
                have htl : (turnP (ks.reverse.take i) sn).length ≤ 1000 := by
                  have h1 : (turnP (ks.reverse.take i) sn).length ≤ (ks.reverse.take i).length := List.length_filterMap_le _ _
                  rw [List.length_take] at h1; omega
                obtain ⟨out, hout⟩ : ∃ out, turnP (ks.reverse.take i) sn = out := ⟨_, rfl⟩
                rw [hout] at HO2 HTS htl ⊢
                clear hy hr hyr hout
                go_wp2_with fail
                go_loopw [11, 13] (fun vv kk WZ => ∃ j : Nat, j ≤ sn.length ∧ kk = .int .i64 (j : Nat) ∧ vv = .slice ad out.length cd ∧ Hid ((sn.take j).find? (fun s => s.key == y) = none) ∧ Hid (Below Wx.heap.size Wx WZ) ∧ Hid (OwnS WZ Wx.heap.size (.slice ad out.length cd) out)) (fun _ kk _ => sn.length - (intOf kk).toNat)
                case atStart => exact ⟨0, Nat.zero_le _, rfl, rfl, rfl, HBX.out, HO2.out⟩
                case round =>
                  obtain ⟨j, hj, rfl, rfl, HNF, HBY, HOY⟩ := hrel
                  by_cases hlt2 : j < sn.length
                  · obtain ⟨s, hs⟩ : ∃ s, sn[j]? = some s := ⟨_, List.getElem?_eq_getElem hlt2⟩
                    obtain ⟨b3, off3, rfl, c0, c1, c2, c3, _, _, _⟩ := (HS.out.below HBY.out).rd.at7 hs
                    obtain ⟨bk, offk, rfl, k0⟩ := (HKA.out.below HBY.out).at HYR.out
                    have HSJ := Lib.hid hs
                    clear hs
                    cases he : (s.key == y) with
                    | false =>
                      have HNF2 := Lib.hid (find_next HNF.out HSJ.out he)
                      go_wp2_with fail
                      go_quiet (fail)
                      have HOD : Hid (OwnS (wr.drewN nq) Wx.heap.size (.slice ad out.length cd) out) := ownsRow_keep HOY.out fun _ _ => rfl
                      go_wp2_with fail
                      go_roundw
                      case rel => exact ⟨j + 1, by omega, by go_num, rfl, HNF2.out, HBY.out.trans ⟨rfl, rfl, rfl, Nat.le_refl _, fun _ _ => rfl⟩, HOD.out⟩
                      case measure => simp [intOf]; omega
                    | true =>
                      have hf := find_at HNF.out HSJ.out he
                      have HTE : Hid (turnP (ks.reverse.take (i + 1)) sn = out ++ [⟨s.key, s.v, 0, 0, 0⟩]) := by show _ = _; rw [HTS.out, hf]; rfl
                      clear hf
                      go_wp2_with fail
                      go_quiet (fail)
                      obtain ⟨Wd, hWd⟩ : ∃ Wd, wr.drewN nq = Wd := ⟨_, rfl⟩
                      have hE : Wd.heap = wr.heap := by rw [← hWd]; rfl
                      have HBD : Hid (Below Wx.heap.size Wx Wd) := by rw [← hWd]; exact HBY.out.trans ⟨rfl, rfl, rfl, Nat.le_refl _, fun _ _ => rfl⟩
                      have HOD : Hid (OwnS Wd Wx.heap.size (.slice ad out.length cd) out) := ownsRow_keep HOY.out fun k _ => by rw [hE]
                      obtain ⟨b4, off4, h4, c0, c1, c2, c3, _, _, _⟩ := (HS.out.below HBD.out).rd.at7 HSJ.out
                      cases h4
                      rw [hWd]
                      clear hE hWd k0 he
                      have HSA : Hid (OwnS (Wd.drew.alloc (.cells #[.string (bs s.key), .int .i64 s.v.k, .float .f64 (fb s.v.x), .string (bs s.v.s), .int .i64 0, .int .i64 0, .int .i64 0] 52)) Wx.heap.size (.slice ad out.length cd) out) := OwnS.below HOD.out ((Below.refl _ _).drew.alloc (Nat.le_refl _) _)
                      have HLN : Hid (Rd (Wd.drew.alloc (.cells #[.string (bs s.key), .int .i64 s.v.k, .float .f64 (fb s.v.x), .string (bs s.v.s), .int .i64 0, .int .i64 0, .int .i64 0] 52)) (some ⟨Wd.heap.size, 0, none⟩) 1 1 7 (snCells ⟨s.key, s.v, 0, 0, 0⟩)) := Rd.lone Wd.drew #[.string (bs s.key), .int .i64 s.v.k, .float .f64 (fb s.v.x), .string (bs s.v.s), .int .i64 0, .int .i64 0, .int .i64 0] 7 rfl 52
                      have HBA : Hid (Below Wx.heap.size Wx (Wd.drew.alloc (.cells #[.string (bs s.key), .int .i64 s.v.k, .float .f64 (fb s.v.x), .string (bs s.v.s), .int .i64 0, .int .i64 0, .int .i64 0] 52))) := HBD.out.drew.alloc HBD.out.size _
                      have k0 := cell_alloc_keep (o := .cells #[.string (bs s.key), .int .i64 s.v.k, .float .f64 (fb s.v.x), .string (bs s.v.s), .int .i64 0, .int .i64 0, .int .i64 0] 52) c0
                      have k1 := cell_alloc_keep (o := .cells #[.string (bs s.key), .int .i64 s.v.k, .float .f64 (fb s.v.x), .string (bs s.v.s), .int .i64 0, .int .i64 0, .int .i64 0] 52) c1
                      have k2 := cell_alloc_keep (o := .cells #[.string (bs s.key), .int .i64 s.v.k, .float .f64 (fb s.v.x), .string (bs s.v.s), .int .i64 0, .int .i64 0, .int .i64 0] 52) c2
                      have k3 := cell_alloc_keep (o := .cells #[.string (bs s.key), .int .i64 s.v.k, .float .f64 (fb s.v.x), .string (bs s.v.s), .int .i64 0, .int .i64 0, .int .i64 0] 52) c3
                      go_wp2_with fail
                      refine wp_region_ht 13 (fun W => W.cell? ⟨b3, off3 + j * 7, none⟩ = some (.string (bs s.key)) ∧ W.cell? ⟨b3, off3 + j * 7 + 1, none⟩ = some (.int .i64 s.v.k) ∧ W.cell? ⟨b3, off3 + j * 7 + 2, none⟩ = some (.float .f64 (fb s.v.x)) ∧ W.cell? ⟨b3, off3 + j * 7 + 3, none⟩ = some (.string (bs s.v.s))) (by kernel_rfl) (by kernel_rfl) ?_ (fun hHeld => ?_)
                      · exact ⟨c0, c1, c2, c3⟩
                      try simp only [Act.put, List.setIfInBounds_toArray, List.set_cons_zero, List.set_cons_succ]
                      refine wpHT_takeD (i := 0) (d := 86) (v := ?_) (by kernel_rfl) rfl rfl (by decide) (by kernel_rfl) (by kernel_rfl) (fun _ _ _ h => h) (Or.inl ⟨by kernel_rfl, ?_⟩) (by assumption) ?_
                      rotate_left
                      · intro w hSw; (try dsimp only at hSw); go_simp; (try with_reducible rfl)
                      try simp only [Act.put, List.setIfInBounds_toArray, List.set_cons_zero, List.set_cons_succ]
                      refine wpHT_takeD (i := 1) (d := 87) (v := ?_) (by kernel_rfl) rfl rfl (by decide) (by kernel_rfl) (by kernel_rfl) (fun _ _ _ h => h) (Or.inl ⟨by kernel_rfl, ?_⟩) (by assumption) ?_
                      rotate_left
                      · intro w hSw; (try dsimp only at hSw); go_simp; (try with_reducible rfl)
                      try simp only [Act.put, List.setIfInBounds_toArray, List.set_cons_zero, List.set_cons_succ]
                      refine wpHT_takeD (i := 2) (d := 88) (v := ?_) (by kernel_rfl) rfl rfl (by decide) (by kernel_rfl) (by kernel_rfl) (fun _ _ _ h => h) (Or.inl ⟨by kernel_rfl, ?_⟩) (by assumption) ?_
                      rotate_left
                      · intro w hSw; (try dsimp only at hSw); go_simp; (try with_reducible rfl)
                      try simp only [Act.put, List.setIfInBounds_toArray, List.set_cons_zero, List.set_cons_succ]
                      refine wpHT_takeD (i := 3) (d := 89) (v := ?_) (by kernel_rfl) rfl rfl (by decide) (by kernel_rfl) (by kernel_rfl) (fun _ _ _ h => h) (Or.inl ⟨by kernel_rfl, ?_⟩) (by assumption) ?_
                      rotate_left
                      · intro w hSw; (try dsimp only at hSw); go_simp; (try with_reducible rfl)
                      try simp only [Act.put, List.setIfInBounds_toArray, List.set_cons_zero, List.set_cons_succ]
                      refine wpHT_takeD (i := 4) (d := 90) (v := ?_) (by kernel_rfl) rfl rfl (by decide) (by kernel_rfl) (by kernel_rfl) (fun _ _ _ h => h) (Or.inl ⟨by kernel_rfl, ?_⟩) (by assumption) ?_
                      rotate_left
                      · intro w hSw; (try dsimp only at hSw); go_simp; (try with_reducible rfl)
                      try simp only [Act.put, List.setIfInBounds_toArray, List.set_cons_zero, List.set_cons_succ]
                      refine wpHT_takeD (i := 5) (d := 91) (v := ?_) (by kernel_rfl) rfl rfl (by decide) (by kernel_rfl) (by kernel_rfl) (fun _ _ _ h => h) (Or.inl ⟨by kernel_rfl, ?_⟩) (by assumption) ?_
                      rotate_left
                      · intro w hSw; (try dsimp only at hSw); go_simp; (try with_reducible rfl)
                      try simp only [Act.put, List.setIfInBounds_toArray, List.set_cons_zero, List.set_cons_succ]
                      refine wpHT_takeD (i := 6) (d := 92) (v := ?_) (by kernel_rfl) rfl rfl (by decide) (by kernel_rfl) (by kernel_rfl) (fun _ _ _ h => h) (Or.inl ⟨by kernel_rfl, ?_⟩) (by assumption) ?_
                      rotate_left
                      · intro w hSw; (try dsimp only at hSw); go_simp; (try with_reducible rfl)
                      try simp only [Act.put, List.setIfInBounds_toArray, List.set_cons_zero, List.set_cons_succ]
                      refine wpHT_takeD (i := 7) (d := 93) (v := ?_) (by kernel_rfl) rfl rfl (by decide) (by kernel_rfl) (by kernel_rfl) (fun _ _ _ h => h) (Or.inl ⟨by kernel_rfl, ?_⟩) (by assumption) ?_
                      rotate_left
                      · intro w hSw; (try dsimp only at hSw); go_simp; (try with_reducible rfl)
                      try simp only [Act.put, List.setIfInBounds_toArray, List.set_cons_zero, List.set_cons_succ]
                      refine wpHT_takeD (i := 8) (d := 94) (v := ?_) (by kernel_rfl) rfl rfl (by decide) (by kernel_rfl) (by kernel_rfl) (fun _ _ _ h => h) (Or.inl ⟨by kernel_rfl, ?_⟩) (by assumption) ?_
                      rotate_left
                      · intro w hSw; (try dsimp only at hSw); go_simp; (try with_reducible rfl)
                      try simp only [Act.put, List.setIfInBounds_toArray, List.set_cons_zero, List.set_cons_succ]
                      refine wpHT_takeD (i := 9) (d := 95) (v := ?_) (by kernel_rfl) rfl rfl (by decide) (by kernel_rfl) (by kernel_rfl) (fun _ _ _ h => h) (Or.inl ⟨by kernel_rfl, ?_⟩) (by assumption) ?_
                      rotate_left
                      · intro w hSw; (try dsimp only at hSw); go_simp; (try with_reducible rfl)
                      try simp only [Act.put, List.setIfInBounds_toArray, List.set_cons_zero, List.set_cons_succ]
                      refine wpHT_takeD (i := 10) (d := 96) (v := ?_) (by kernel_rfl) rfl rfl (by decide) (by kernel_rfl) (by kernel_rfl) (fun _ _ _ h => h) (Or.inl ⟨by kernel_rfl, ?_⟩) (by assumption) ?_
                      rotate_left
                      · intro w hSw; (try dsimp only at hSw); go_simp; (try with_reducible rfl)
                      try simp only [Act.put, List.setIfInBounds_toArray, List.set_cons_zero, List.set_cons_succ]
                      refine wpHT_takeD (i := 11) (d := 97) (v := ?_) (by kernel_rfl) rfl rfl (by decide) (by kernel_rfl) (by kernel_rfl) (fun _ _ _ h => h) (Or.inl ⟨by kernel_rfl, ?_⟩) (by assumption) ?_
                      rotate_left
                      · intro w hSw; (try dsimp only at hSw); go_simp; (try with_reducible rfl)
                      try simp only [Act.put, List.setIfInBounds_toArray, List.set_cons_zero, List.set_cons_succ]
                      refine wpHT_one (i := 12) (by kernel_rfl) rfl (by decide) (fun K hK => ?_)
                      go_simp
                      refine hK.out _ _ ?_ (fun hHeld => ?_)
                      · exact ⟨k0, k1, k2, k3⟩
                      clear hK K
                      try simp only [Act.put, List.setIfInBounds_toArray, List.set_cons_zero, List.set_cons_succ]
                      refine wpHT_done (by kernel_rfl) ?_
                      simp only [List.drop_succ_cons, List.drop_zero]
                      clear hHeld c0 c1 c2 c3 k0 k1 k2 k3
                      go_wp2_with (at_builtin; refine wpList_app SSn rfl (.tmp 86) (.tmp 98) rfl Wx.heap.size rfl HSA.out rfl HLN.out (snCells_one _) (by omega) (by unfold maxLen; omega) HBA.out.size ?_)
                      intro v5 w5 hown5 hb5 _
                      have HO5 : Hid (OwnS w5 Wx.heap.size v5 (turnP (ks.reverse.take (i + 1)) sn)) := by show OwnS _ _ _ _; rw [HTE.out]; exact own_snocS _ rfl hown5
                      have HB5 := Lib.hid (HBA.out.trans hb5)
                      clear hown5 hb5
                      go_wp2_with fail
                      go_roundw
                      case rel => exact ⟨i + 1, by omega, by go_num, HO5.out, HB5.out⟩
                      case measure => simp [intOf]; omega
                  · obtain rfl : j = sn.length := by omega
                    have hf := find_no HNF.out
                    have HTE : Hid (turnP (ks.reverse.take (i + 1)) sn = out) := by show _ = _; rw [HTS.out, hf]; simp
                    have HOE : Hid (OwnS wr Wx.heap.size (.slice ad out.length cd) (turnP (ks.reverse.take (i + 1)) sn)) := by show OwnS _ _ _ _; rw [HTE.out]; exact HOY.out
                    clear hf
                    go_wp2_with fail
                    go_roundw
                    case rel => exact ⟨i + 1, by omega, by go_num, HOE.out, HBY.out⟩
                    case measure => simp [intOf]; omega
              · obtain rfl : ks.length = i := by omega
                clear hlt hi
                have htk : ks.reverse.take ks.length = ks.reverse := List.take_of_length_le (by simp)
                rw [htk] at HO2
                obtain ⟨ad, cd, rfl, hrd⟩ := OwnS.rd HO2.out
                have HOK : Hid (∀ s ∈ oth ++ turnP ks.reverse sn, SnOk s) := by show ∀ s ∈ _, _; rw [← HOT.out]; exact other_ok HM.out.ok HS.out.ok _
                have HAG : Hid (runE l (oth ++ turnP ks.reverse sn) = runE l sn ∧ runW l (oth ++ turnP ks.reverse sn) = runW l sn) := by
                  have h := run_agree (sn := sn) (sn' := oth ++ turnP ks.reverse sn) (p := l) (by rw [HKS.out, ← HOT.out]; exact agree_turn ks sn mo)
                  exact ⟨h.1.symm, h.2.symm⟩
                have htl : (turnP ks.reverse sn).length ≤ 1000 := by
                  have h1 : (turnP ks.reverse sn).length ≤ ks.reverse.length := List.length_filterMap_le _ _
                  rw [List.length_reverse] at h1; omega
                obtain ⟨tur, htur⟩ : ∃ tur, turnP ks.reverse sn = tur := ⟨_, rfl⟩
                rw [htur] at HO2 hrd HOK HAG htl ⊢
                have HTU := Lib.hid hrd
                have HOO := Lib.hid (OwnS.below HO.out HBX.out)
                have OOY := HOO
                clear htk hrd htur HO HO2
                have hb := HBX.out
                rename World => Wy
                replace HK := Lib.hid (HK.out.next hb)
                replace HR := Lib.hid (HR.out.below hb)
                replace HS := Lib.hid (HS.out.below hb)
                replace HM := Lib.hid (HM.out.below hb)
                replace HP := Lib.hid (HP.out.below hb)
                replace HKA := Lib.hid (HKA.out.below hb)
                replace HKB := Lib.hid (HKB.out.below hb)
                replace HBZ := Lib.hid (HBZ.out.below hb)
                clear hb
                clear HBX
                go_wp2_with fail
                go_at_call 24
                refine (run_any a l.length cap l b sn.length capb sn _ HP.out HS.out (by omega)).mono ?_
                rintro e W10 ⟨v, rfl, ho, hb⟩
                replace HK := Lib.hid (HK.out.next hb)
                replace HR := Lib.hid (HR.out.below hb)
                replace HS := Lib.hid (HS.out.below hb)
                replace HM := Lib.hid (HM.out.below hb)
                replace HP := Lib.hid (HP.out.below hb)
                replace HKA := Lib.hid (HKA.out.below hb)
                replace HKB := Lib.hid (HKB.out.below hb)
                replace HBZ := Lib.hid (HBZ.out.below hb)
                replace HTU := Lib.hid (HTU.out.below hb)
                replace HOO := Lib.hid (HOO.out.below hb)
                clear hb
                obtain ⟨aw, cw, hvw, _⟩ := Rd.of_own ho
                subst hvw
                have HOW := Lib.hid ho
                clear ho
                obtain ⟨hg1, hg2, hg3, hg4⟩ := run_gen l sn
                have HG1 := Lib.hid hg1
                have HG2 := Lib.hid hg2
                have HG3 := Lib.hid hg3
                have HG4 := Lib.hid hg4
                clear hg1 hg2 hg3 hg4
                have hwl : (runW l sn).length ≤ 1000 := runW_len l sn
                obtain ⟨ws, hws⟩ : ∃ ws, runW l sn = ws := ⟨_, rfl⟩
                obtain ⟨er, her⟩ : ∃ er, runE l sn = er := ⟨_, rfl⟩
                rw [hws] at HOW HG1 HG2 HG3 HG4 HAG hwl ⊢
                rw [her] at HG3 HG4 HAG ⊢
                clear hws her
                go_wp2_with (at_builtin; refine wpList_app SSn rfl (.tmp 108) (.tmp 109) rfl W9.heap.size rfl HOO.out rfl HTU.out.2 (flat_one snCells_one tur) (by omega) (by unfold maxLen; omega) (Below.size HBZ.out) ?_)
                intro v6 W6 hown6 hb6 hg6
                have hb96 : Below W9.heap.size W9 W6 := Below.trans HBZ.out hb6
                have HOW6 : Hid (World.ownsRow W6 Wy.heap.size 54 4 (.slice aw ws.length cw) ws.length (flatE wrCells ws)) := ownsRow_keep HOW.out fun k hk => hg6.block k (World.ownsRow.lt HOW.out k hk).2 fun e => by
                  have h1 := (World.ownsRow.lt HOW.out k hk).1
                  have h2 := (World.ownsRow.lt OOY.out k e.symm).2
                  omega
                have ho6 : OwnS W6 W9.heap.size v6 (oth ++ tur) := by
                  show World.ownsRow _ _ _ _ _ _ _
                  rw [List.length_append, flatE_append]
                  exact hown6
                obtain ⟨sx, hsx⟩ : ∃ sx, oth ++ tur = sx := ⟨_, rfl⟩
                rw [hsx] at ho6 HOK HAG
                clear hsx hown6
                obtain ⟨a6, c6, rfl, h6⟩ := OwnS.rd ho6
                have HX6 := Lib.hid (RdS.mk h6 HOK.out)
                clear ho6 h6 hb6 hg6 HOW OOY HOO HTU HK HR HS HM HP HKA HKB HBZ
                obtain ⟨_, _, hvq, hrw⟩ := Rd.of_own HOW6.out
                cases hvq
                have HW1 : Hid (RdE wrCells 4 W6 aw ws.length cw ws) := ⟨rfl, hrw⟩
                clear hrw HOW6
                have HK := Lib.hid (K9.out.next hb96)
                have HP := Lib.hid (P9.out.below hb96)
                have HKB := Lib.hid (B9.out.below hb96)
                clear hb96 K9 S9x M9 P9 A9 B9
                go_wp2_with fail
                go_at_call 24
                refine (run_any a l.length cap l a6 sx.length c6 sx _ HP.out HX6.out (by omega)).mono ?_
                rintro e W11 ⟨v, rfl, ho, hb⟩
                rw [HAG.out.1]
                rw [HAG.out.2] at ho
                obtain ⟨aw2, cw2, rfl, hrw⟩ := Rd.of_own ho
                have HW2 : Hid (RdE wrCells 4 W11 aw2 ws.length cw2 ws) := ⟨rfl, hrw⟩
                clear ho hrw
                replace HK := Lib.hid (HK.out.next hb)
                replace HP := Lib.hid (HP.out.below hb)
                replace HKB := Lib.hid (HKB.out.below hb)
                replace HX6 := Lib.hid (HX6.out.below hb)
                replace HW1 := Lib.hid (HW1.out.below hb)
                clear hb
                by_cases h0 : er = 0
                case neg =>
                  have hl0 := HG3.out h0
                  have heb : (er != 0) = true := by simp [h0]
                  rw [hl0] at HW1 HW2 ⊢
                  clear h0
                  go_wp2_with fail
                  go_at_call 26
                  refine (writes_same _ _ _ _ _ _ _ HW1.out HW2.out (by omega)).mono ?_
                  rintro e W12 ⟨rfl, hb⟩
                  replace HK := Lib.hid (HK.out.next hb)
                  replace HP := Lib.hid (HP.out.below hb)
                  replace HKB := Lib.hid (HKB.out.below hb)
                  replace HX6 := Lib.hid (HX6.out.below hb)
                  replace HW1 := Lib.hid (HW1.out.below hb)
                  replace HW2 := Lib.hid (HW2.out.below hb)
                  clear hb
                  go_wp2_with fail
                  go_loopw [18] (fun i WZ => i = .int .i64 0 ∧ WZ = W12) (fun _ _ => 0)
                  case atStart => exact ⟨rfl, rfl⟩
                  case round =>
                    obtain ⟨rfl, rfl⟩ := hrel
                    go_wp2_with fail
                    go_at_call 11
                    refine (first9_any _ HK.out.laid).mono ?_
                    rintro e W13 ⟨rfl, hb⟩
                    replace HK := Lib.hid (HK.out.next hb)
                    replace HP := Lib.hid (HP.out.below hb)
                    replace HKB := Lib.hid (HKB.out.below hb)
                    replace HX6 := Lib.hid (HX6.out.below hb)
                    replace HW1 := Lib.hid (HW1.out.below hb)
                    replace HW2 := Lib.hid (HW2.out.below hb)
                    clear hb
                    go_wp2_with fail
                    go_ret
                    exact ⟨rfl, HK.out.below⟩
                case pos =>
                  subst h0
                  have HNL := Lib.hid (HG4.out rfl)
                  go_wp2_with fail
                  go_at_call 26
                  refine (writes_same _ _ _ _ _ _ _ HW1.out HW2.out (by omega)).mono ?_
                  rintro e W14 ⟨rfl, hb⟩
                  replace HK := Lib.hid (HK.out.next hb)
                  replace HP := Lib.hid (HP.out.below hb)
                  replace HKB := Lib.hid (HKB.out.below hb)
                  replace HX6 := Lib.hid (HX6.out.below hb)
                  replace HW1 := Lib.hid (HW1.out.below hb)
                  replace HW2 := Lib.hid (HW2.out.below hb)
                  clear hb
                  go_wp2_with fail
                  go_loopw [18] (fun i WZ => ∃ j : Nat, j ≤ ws.length ∧ i = .int .i64 (j : Nat) ∧ Hid (Below W14.heap.size W14 WZ)) (fun i _ => ws.length - (intOf i).toNat)
                  case atStart => exact ⟨0, Nat.zero_le _, rfl, Below.refl _ _⟩
                  case round =>
                    obtain ⟨i, hi, rfl, HBQ⟩ := hrel
                    by_cases hlt : i < ws.length
                    · obtain ⟨q, hq⟩ : ∃ q, ws[i]? = some q := ⟨_, List.getElem?_eq_getElem hlt⟩
                      obtain ⟨bw, offw, rfl, c0, c1, c2, c3⟩ := (HW1.out.below HBQ.out).at4 hq
                      have hq1 := HG1.out q (List.mem_of_getElem? hq)
                      have hany : ((namesP l).any fun k => k == q.1) = true := List.any_eq_true.2 ⟨q.1, hq1.1, by simp⟩
                      have HHS := Lib.hid (has_any ak2 (namesP l).length ck2 (namesP l) q.1 wr.drew (HKB.out.below HBQ.out.drew))
                      rw [hany] at HHS
                      have hmy : mayB q.2.k q.2.x q.2.s = true := hq1.2
                      clear hany hq1
                      by_cases hz : i = 0
                      case pos =>
                        subst hz
                        simp only [Nat.zero_mul, Nat.add_zero] at c0 c1 c2 c3
                        go_wp2_with fail
                        refine wp_region_ht 34 (fun W => W.cell? ⟨bw, offw, none⟩ = some (.string (bs q.1)) ∧ W.cell? ⟨bw, offw + 1, none⟩ = some (.int .i64 q.2.k) ∧ W.cell? ⟨bw, offw + 2, none⟩ = some (.float .f64 (fb q.2.x)) ∧ W.cell? ⟨bw, offw + 3, none⟩ = some (.string (bs q.2.s))) (by kernel_rfl) (by kernel_rfl) ?_ (fun hHeld => ?_)
                        · exact ⟨c0, c1, c2, c3⟩
                        try simp only [Act.put, List.setIfInBounds_toArray, List.set_cons_zero, List.set_cons_succ]
                        refine wpHT_takeD (i := 0) (d := 138) (v := ?_) (by kernel_rfl) rfl rfl (by decide) (by kernel_rfl) (by kernel_rfl) (fun _ _ _ h => h) (Or.inl ⟨by kernel_rfl, ?_⟩) (by assumption) ?_
                        rotate_left
                        · intro w hSw; (try dsimp only at hSw); go_simp; (try with_reducible rfl)
                        try simp only [Act.put, List.setIfInBounds_toArray, List.set_cons_zero, List.set_cons_succ]
                        refine wpHT_takeD (i := 1) (d := 139) (v := ?_) (by kernel_rfl) rfl rfl (by decide) (by kernel_rfl) (by kernel_rfl) (fun _ _ _ h => h) (Or.inl ⟨by kernel_rfl, ?_⟩) (by assumption) ?_
                        rotate_left
                        · intro w hSw; (try dsimp only at hSw); go_simp; (try with_reducible rfl)
                        try simp only [Act.put, List.setIfInBounds_toArray, List.set_cons_zero, List.set_cons_succ]
                        refine wpHT_takeD (i := 2) (d := 140) (v := ?_) (by kernel_rfl) rfl rfl (by decide) (by kernel_rfl) (by kernel_rfl) (fun _ _ _ h => h) (Or.inl ⟨by kernel_rfl, ?_⟩) (by assumption) ?_
                        rotate_left
                        · intro w hSw; (try dsimp only at hSw); go_simp; (try with_reducible rfl)
                        try simp only [Act.put, List.setIfInBounds_toArray, List.set_cons_zero, List.set_cons_succ]
                        refine wpHT_takeD (i := 3) (d := 141) (v := ?_) (by kernel_rfl) rfl rfl (by decide) (by kernel_rfl) (by kernel_rfl) (fun _ _ _ h => h) (Or.inl ⟨by kernel_rfl, ?_⟩) (by assumption) ?_
                        rotate_left
                        · intro w hSw; (try dsimp only at hSw); go_simp; (try with_reducible rfl)
                        try simp only [Act.put, List.setIfInBounds_toArray, List.set_cons_zero, List.set_cons_succ]
                        refine wpHT_takeD (i := 4) (d := 142) (v := ?_) (by kernel_rfl) rfl rfl (by decide) (by kernel_rfl) (by kernel_rfl) (fun _ _ _ h => h) (Or.inl ⟨by kernel_rfl, ?_⟩) (by assumption) ?_
                        rotate_left
                        · intro w hSw; (try dsimp only at hSw); go_simp; (try with_reducible rfl)
                        try simp only [Act.put, List.setIfInBounds_toArray, List.set_cons_zero, List.set_cons_succ]
                        refine wpHT_takeD (i := 5) (d := 143) (v := ?_) (by kernel_rfl) rfl rfl (by decide) (by kernel_rfl) (by kernel_rfl) (fun _ _ _ h => h) (Or.inl ⟨by kernel_rfl, ?_⟩) (by assumption) ?_
                        rotate_left
                        · intro w hSw; (try dsimp only at hSw); go_simp; (try with_reducible rfl)
                        try simp only [Act.put, List.setIfInBounds_toArray, List.set_cons_zero, List.set_cons_succ]
                        refine wpHT_one (i := 6) (by kernel_rfl) rfl (by decide) (fun K hK => ?_)
                        go_simp
                        go_at_call 32
                        refine (HHS.out).mono ?_
                        rintro e W11 ⟨rfl, rfl⟩
                        refine hK.out _ _ ?_ (fun hHeld => ?_)
                        · exact ⟨c0, c1, c2, c3⟩
                        clear hK K
                        try simp only [Act.put, List.setIfInBounds_toArray, List.set_cons_zero, List.set_cons_succ]
                        refine wpHT_takeD (i := 7) (d := 145) (v := ?_) (by kernel_rfl) rfl rfl (by decide) (by kernel_rfl) (by kernel_rfl) (fun _ _ _ h => h) (Or.inl ⟨by kernel_rfl, ?_⟩) (by assumption) ?_
                        rotate_left
                        · intro w hSw; (try dsimp only at hSw); go_simp; (try with_reducible rfl)
                        try simp only [Act.put, List.setIfInBounds_toArray, List.set_cons_zero, List.set_cons_succ]
                        refine wpHT_takeD (i := 8) (d := 146) (v := ?_) (by kernel_rfl) rfl rfl (by decide) (by kernel_rfl) (by kernel_rfl) (fun _ _ _ h => h) (Or.inl ⟨by kernel_rfl, ?_⟩) (by assumption) ?_
                        rotate_left
                        · intro w hSw; (try dsimp only at hSw); go_simp; (try with_reducible rfl)
                        try simp only [Act.put, List.setIfInBounds_toArray, List.set_cons_zero, List.set_cons_succ]
                        refine wpHT_takeD (i := 9) (d := 147) (v := ?_) (by kernel_rfl) rfl rfl (by decide) (by kernel_rfl) (by kernel_rfl) (fun _ _ _ h => h) (Or.inl ⟨by kernel_rfl, ?_⟩) (by assumption) ?_
                        rotate_left
                        · intro w hSw; (try dsimp only at hSw); go_simp; (try with_reducible rfl)
                        try simp only [Act.put, List.setIfInBounds_toArray, List.set_cons_zero, List.set_cons_succ]
                        refine wpHT_takeD (i := 10) (d := 148) (v := ?_) (by kernel_rfl) rfl rfl (by decide) (by kernel_rfl) (by kernel_rfl) (fun _ _ _ h => h) (Or.inl ⟨by kernel_rfl, ?_⟩) (by assumption) ?_
                        rotate_left
                        · intro w hSw; (try dsimp only at hSw); go_simp; (try with_reducible rfl)
                        try simp only [Act.put, List.setIfInBounds_toArray, List.set_cons_zero, List.set_cons_succ]
                        refine wpHT_takeD (i := 11) (d := 149) (v := ?_) (by kernel_rfl) rfl rfl (by decide) (by kernel_rfl) (by kernel_rfl) (fun _ _ _ h => h) (Or.inl ⟨by kernel_rfl, ?_⟩) (by assumption) ?_
                        rotate_left
                        · intro w hSw; (try dsimp only at hSw); go_simp; (try with_reducible rfl)
                        try simp only [Act.put, List.setIfInBounds_toArray, List.set_cons_zero, List.set_cons_succ]
                        refine wpHT_takeD (i := 12) (d := 150) (v := undef) (by kernel_rfl) rfl rfl (by decide) (by kernel_rfl) (by kernel_rfl) (fun _ _ _ h => h) (Or.inr ⟨by kernel_rfl, rfl⟩) (by assumption) ?_
                        try simp only [Act.put, List.setIfInBounds_toArray, List.set_cons_zero, List.set_cons_succ]
                        refine wpHT_takeD (i := 13) (d := 151) (v := undef) (by kernel_rfl) rfl rfl (by decide) (by kernel_rfl) (by kernel_rfl) (fun _ _ _ h => h) (Or.inr ⟨by kernel_rfl, rfl⟩) (by assumption) ?_
                        try simp only [Act.put, List.setIfInBounds_toArray, List.set_cons_zero, List.set_cons_succ]
                        refine wpHT_takeD (i := 14) (d := 152) (v := undef) (by kernel_rfl) rfl rfl (by decide) (by kernel_rfl) (by kernel_rfl) (fun _ _ _ h => h) (Or.inr ⟨by kernel_rfl, rfl⟩) (by assumption) ?_
                        try simp only [Act.put, List.setIfInBounds_toArray, List.set_cons_zero, List.set_cons_succ]
                        refine wpHT_takeD (i := 15) (d := 153) (v := undef) (by kernel_rfl) rfl rfl (by decide) (by kernel_rfl) (by kernel_rfl) (fun _ _ _ h => h) (Or.inr ⟨by kernel_rfl, rfl⟩) (by assumption) ?_
                        try simp only [Act.put, List.setIfInBounds_toArray, List.set_cons_zero, List.set_cons_succ]
                        refine wpHT_takeD (i := 16) (d := 154) (v := undef) (by kernel_rfl) rfl rfl (by decide) (by kernel_rfl) (by kernel_rfl) (fun _ _ _ h => h) (Or.inr ⟨by kernel_rfl, rfl⟩) (by assumption) ?_
                        try simp only [Act.put, List.setIfInBounds_toArray, List.set_cons_zero, List.set_cons_succ]
                        refine wpHT_takeD (i := 17) (d := 155) (v := undef) (by kernel_rfl) rfl rfl (by decide) (by kernel_rfl) (by kernel_rfl) (fun _ _ _ h => h) (Or.inr ⟨by kernel_rfl, rfl⟩) (by assumption) ?_
                        try simp only [Act.put, List.setIfInBounds_toArray, List.set_cons_zero, List.set_cons_succ]
                        refine wpHT_takeD (i := 18) (d := 156) (v := undef) (by kernel_rfl) rfl rfl (by decide) (by kernel_rfl) (by kernel_rfl) (fun _ _ _ h => h) (Or.inr ⟨by kernel_rfl, rfl⟩) (by assumption) ?_
                        try simp only [Act.put, List.setIfInBounds_toArray, List.set_cons_zero, List.set_cons_succ]
                        refine wpHT_takeD (i := 19) (d := 157) (v := undef) (by kernel_rfl) rfl rfl (by decide) (by kernel_rfl) (by kernel_rfl) (fun _ _ _ h => h) (Or.inr ⟨by kernel_rfl, rfl⟩) (by assumption) ?_
                        try simp only [Act.put, List.setIfInBounds_toArray, List.set_cons_zero, List.set_cons_succ]
                        refine wpHT_takeD (i := 20) (d := 158) (v := undef) (by kernel_rfl) rfl rfl (by decide) (by kernel_rfl) (by kernel_rfl) (fun _ _ _ h => h) (Or.inr ⟨by kernel_rfl, rfl⟩) (by assumption) ?_
                        try simp only [Act.put, List.setIfInBounds_toArray, List.set_cons_zero, List.set_cons_succ]
                        refine wpHT_takeD (i := 21) (d := 159) (v := undef) (by kernel_rfl) rfl rfl (by decide) (by kernel_rfl) (by kernel_rfl) (fun _ _ _ h => h) (Or.inr ⟨by kernel_rfl, rfl⟩) (by assumption) ?_
                        try simp only [Act.put, List.setIfInBounds_toArray, List.set_cons_zero, List.set_cons_succ]
                        refine wpHT_takeD (i := 22) (d := 160) (v := undef) (by kernel_rfl) rfl rfl (by decide) (by kernel_rfl) (by kernel_rfl) (fun _ _ _ h => h) (Or.inr ⟨by kernel_rfl, rfl⟩) (by assumption) ?_
                        try simp only [Act.put, List.setIfInBounds_toArray, List.set_cons_zero, List.set_cons_succ]
                        refine wpHT_takeD (i := 23) (d := 161) (v := undef) (by kernel_rfl) rfl rfl (by decide) (by kernel_rfl) (by kernel_rfl) (fun _ _ _ h => h) (Or.inr ⟨by kernel_rfl, rfl⟩) (by assumption) ?_
                        try simp only [Act.put, List.setIfInBounds_toArray, List.set_cons_zero, List.set_cons_succ]
                        refine wpHT_takeD (i := 24) (d := 162) (v := ?_) (by kernel_rfl) rfl rfl (by decide) (by kernel_rfl) (by kernel_rfl) (fun _ _ _ h => h) (Or.inl ⟨by kernel_rfl, ?_⟩) (by assumption) ?_
                        rotate_left
                        · intro w hSw; (try dsimp only at hSw); go_simp; (try with_reducible rfl)
                        try simp only [Act.put, List.setIfInBounds_toArray, List.set_cons_zero, List.set_cons_succ]
                        refine wpHT_takeD (i := 25) (d := 163) (v := ?_) (by kernel_rfl) rfl rfl (by decide) (by kernel_rfl) (by kernel_rfl) (fun _ _ _ h => h) (Or.inl ⟨by kernel_rfl, ?_⟩) (by assumption) ?_
                        rotate_left
                        · intro w hSw; (try dsimp only at hSw); go_simp; (try with_reducible rfl)
                        try simp only [Act.put, List.setIfInBounds_toArray, List.set_cons_zero, List.set_cons_succ]
                        refine wpHT_takeD (i := 26) (d := 164) (v := ?_) (by kernel_rfl) rfl rfl (by decide) (by kernel_rfl) (by kernel_rfl) (fun _ _ _ h => h) (Or.inl ⟨by kernel_rfl, ?_⟩) (by assumption) ?_
                        rotate_left
                        · intro w hSw; (try dsimp only at hSw); go_simp; (try with_reducible rfl)
                        try simp only [Act.put, List.setIfInBounds_toArray, List.set_cons_zero, List.set_cons_succ]
                        refine wpHT_takeD (i := 27) (d := 165) (v := ?_) (by kernel_rfl) rfl rfl (by decide) (by kernel_rfl) (by kernel_rfl) (fun _ _ _ h => h) (Or.inl ⟨by kernel_rfl, ?_⟩) (by assumption) ?_
                        rotate_left
                        · intro w hSw; (try dsimp only at hSw); go_simp; (try with_reducible rfl)
                        try simp only [Act.put, List.setIfInBounds_toArray, List.set_cons_zero, List.set_cons_succ]
                        refine wpHT_takeD (i := 28) (d := 166) (v := ?_) (by kernel_rfl) rfl rfl (by decide) (by kernel_rfl) (by kernel_rfl) (fun _ _ _ h => h) (Or.inl ⟨by kernel_rfl, ?_⟩) (by assumption) ?_
                        rotate_left
                        · intro w hSw; (try dsimp only at hSw); go_simp; (try with_reducible rfl)
                        try simp only [Act.put, List.setIfInBounds_toArray, List.set_cons_zero, List.set_cons_succ]
                        refine wpHT_takeD (i := 29) (d := 167) (v := ?_) (by kernel_rfl) rfl rfl (by decide) (by kernel_rfl) (by kernel_rfl) (fun _ _ _ h => h) (Or.inl ⟨by kernel_rfl, ?_⟩) (by assumption) ?_
                        rotate_left
                        · intro w hSw; (try dsimp only at hSw); go_simp; (try with_reducible rfl)
                        try simp only [Act.put, List.setIfInBounds_toArray, List.set_cons_zero, List.set_cons_succ]
                        refine wpHT_takeD (i := 30) (d := 168) (v := ?_) (by kernel_rfl) rfl rfl (by decide) (by kernel_rfl) (by kernel_rfl) (fun _ _ _ h => h) (Or.inl ⟨by kernel_rfl, ?_⟩) (by assumption) ?_
                        rotate_left
                        · intro w hSw; (try dsimp only at hSw); go_simp; (try with_reducible rfl)
                        try simp only [Act.put, List.setIfInBounds_toArray, List.set_cons_zero, List.set_cons_succ]
                        refine wpHT_takeD (i := 31) (d := 169) (v := ?_) (by kernel_rfl) rfl rfl (by decide) (by kernel_rfl) (by kernel_rfl) (fun _ _ _ h => h) (Or.inl ⟨by kernel_rfl, ?_⟩) (by assumption) ?_
                        rotate_left
                        · intro w hSw; (try dsimp only at hSw); go_simp; (try with_reducible rfl)
                        try simp only [Act.put, List.setIfInBounds_toArray, List.set_cons_zero, List.set_cons_succ]
                        refine wpHT_one (i := 32) (by kernel_rfl) rfl (by decide) (fun K hK => ?_)
                        go_simp
                        go_at_call 33
                        refine (refMay_any q.2.k q.2.x q.2.s _).mono ?_
                        rintro e W12 ⟨rfl, hb0⟩
                        have hb : Below wr.heap.size wr W12 := ((Below.refl _ wr).drew).trans hb0
                        have HB2 := Lib.hid (HBQ.out.trans (hb.mono HBQ.out.size))
                        refine hK.out _ _ ?_ (fun hHeld => ?_)
                        · exact ⟨cell_below c0 hb, cell_below c1 hb, cell_below c2 hb, cell_below c3 hb⟩
                        clear hK K
                        try simp only [Act.put, List.setIfInBounds_toArray, List.set_cons_zero, List.set_cons_succ]
                        refine wpHT_takeD (i := 33) (d := 171) (v := ?_) (by kernel_rfl) rfl rfl (by decide) (by kernel_rfl) (by kernel_rfl) (fun _ _ _ h => h) (Or.inl ⟨by kernel_rfl, ?_⟩) (by assumption) ?_
                        rotate_left
                        · intro w hSw; (try dsimp only at hSw); go_simp; (try with_reducible rfl)
                        try simp only [Act.put, List.setIfInBounds_toArray, List.set_cons_zero, List.set_cons_succ]
                        refine wpHT_done (by kernel_rfl) ?_
                        simp only [List.drop_succ_cons, List.drop_zero]
                        clear hHeld c0 c1 c2 c3
                        rw [hmy]
                        go_wp2_with fail
                        go_roundw
                        case rel => exact ⟨0 + 1, by omega, by go_num, HB2.out⟩
                        case measure => simp [intOf]; omega
                      case neg =>
                        obtain ⟨r, hr⟩ : ∃ r, r + 1 = i := ⟨i - 1, by omega⟩
                        obtain ⟨p, hp⟩ : ∃ p, ws[r]? = some p := ⟨_, List.getElem?_eq_getElem (by omega)⟩
                        obtain ⟨_, _, hbo, e0, _, _, _⟩ := (HW1.out.below HBQ.out).at4 hp
                        cases hbo
                        have hgt := HG2.out r p q hp (by rw [hr]; exact hq)
                        have hne : ¬ q.1 = p.1 := fun e => by rw [e, bB_irrefl] at hgt; cases hgt
                        have hbn : Op.bytesLess q.1 p.1 = false := bl_gt.trans (by
                          cases h : bB q.1 p.1 with
                          | false => rfl
                          | true => have h9 := bB_trans hgt h; rw [bB_irrefl] at h9; cases h9)
                        have hbe : (q.1 == p.1) = false := beq_eq_false_iff_ne.2 hne
                        clear hgt
                        have h0i : 0 < i := by omega
                        have hrl : r < ws.length := by omega
                        have hw1 : IntKind.i64.wrap ((i : Int) - 1) = (r : Int) := by rw [IntWalk.i64_in _ (by omega)]; omega
                        clear hp hq hr hz
                        go_wp2_with fail
                        refine wp_region_ht 34 (fun W => W.cell? ⟨bw, offw + i * 4, none⟩ = some (.string (bs q.1)) ∧ W.cell? ⟨bw, offw + i * 4 + 1, none⟩ = some (.int .i64 q.2.k) ∧ W.cell? ⟨bw, offw + i * 4 + 2, none⟩ = some (.float .f64 (fb q.2.x)) ∧ W.cell? ⟨bw, offw + i * 4 + 3, none⟩ = some (.string (bs q.2.s)) ∧ W.cell? ⟨bw, offw + r * 4, none⟩ = some (.string (bs p.1))) (by kernel_rfl) (by kernel_rfl) ?_ (fun hHeld => ?_)
                        · exact ⟨c0, c1, c2, c3, e0⟩
                        try simp only [Act.put, List.setIfInBounds_toArray, List.set_cons_zero, List.set_cons_succ]
                        refine wpHT_takeD (i := 0) (d := 138) (v := ?_) (by kernel_rfl) rfl rfl (by decide) (by kernel_rfl) (by kernel_rfl) (fun _ _ _ h => h) (Or.inl ⟨by kernel_rfl, ?_⟩) (by assumption) ?_
                        rotate_left
                        · intro w hSw; (try dsimp only at hSw); go_simp; (try with_reducible rfl)
                        try simp only [Act.put, List.setIfInBounds_toArray, List.set_cons_zero, List.set_cons_succ]
                        refine wpHT_takeD (i := 1) (d := 139) (v := ?_) (by kernel_rfl) rfl rfl (by decide) (by kernel_rfl) (by kernel_rfl) (fun _ _ _ h => h) (Or.inl ⟨by kernel_rfl, ?_⟩) (by assumption) ?_
                        rotate_left
                        · intro w hSw; (try dsimp only at hSw); go_simp; (try with_reducible rfl)
                        try simp only [Act.put, List.setIfInBounds_toArray, List.set_cons_zero, List.set_cons_succ]
                        refine wpHT_takeD (i := 2) (d := 140) (v := ?_) (by kernel_rfl) rfl rfl (by decide) (by kernel_rfl) (by kernel_rfl) (fun _ _ _ h => h) (Or.inl ⟨by kernel_rfl, ?_⟩) (by assumption) ?_
                        rotate_left
                        · intro w hSw; (try dsimp only at hSw); go_simp; (try with_reducible rfl)
                        try simp only [Act.put, List.setIfInBounds_toArray, List.set_cons_zero, List.set_cons_succ]
                        refine wpHT_takeD (i := 3) (d := 141) (v := ?_) (by kernel_rfl) rfl rfl (by decide) (by kernel_rfl) (by kernel_rfl) (fun _ _ _ h => h) (Or.inl ⟨by kernel_rfl, ?_⟩) (by assumption) ?_
                        rotate_left
                        · intro w hSw; (try dsimp only at hSw); go_simp; (try with_reducible rfl)
                        try simp only [Act.put, List.setIfInBounds_toArray, List.set_cons_zero, List.set_cons_succ]
                        refine wpHT_takeD (i := 4) (d := 142) (v := ?_) (by kernel_rfl) rfl rfl (by decide) (by kernel_rfl) (by kernel_rfl) (fun _ _ _ h => h) (Or.inl ⟨by kernel_rfl, ?_⟩) (by assumption) ?_
                        rotate_left
                        · intro w hSw; (try dsimp only at hSw); go_simp; (try with_reducible rfl)
                        try simp only [Act.put, List.setIfInBounds_toArray, List.set_cons_zero, List.set_cons_succ]
                        refine wpHT_takeD (i := 5) (d := 143) (v := ?_) (by kernel_rfl) rfl rfl (by decide) (by kernel_rfl) (by kernel_rfl) (fun _ _ _ h => h) (Or.inl ⟨by kernel_rfl, ?_⟩) (by assumption) ?_
                        rotate_left
                        · intro w hSw; (try dsimp only at hSw); go_simp; (try with_reducible rfl)
                        try simp only [Act.put, List.setIfInBounds_toArray, List.set_cons_zero, List.set_cons_succ]
                        refine wpHT_one (i := 6) (by kernel_rfl) rfl (by decide) (fun K hK => ?_)
                        go_simp
                        go_at_call 32
                        refine (HHS.out).mono ?_
                        rintro e W11 ⟨rfl, rfl⟩
                        refine hK.out _ _ ?_ (fun hHeld => ?_)
                        · exact ⟨c0, c1, c2, c3, e0⟩
                        clear hK K
                        try simp only [Act.put, List.setIfInBounds_toArray, List.set_cons_zero, List.set_cons_succ]
                        refine wpHT_takeD (i := 7) (d := 145) (v := ?_) (by kernel_rfl) rfl rfl (by decide) (by kernel_rfl) (by kernel_rfl) (fun _ _ _ h => h) (Or.inl ⟨by kernel_rfl, ?_⟩) (by assumption) ?_
                        rotate_left
                        · intro w hSw; (try dsimp only at hSw); go_simp; (try with_reducible rfl)
                        try simp only [Act.put, List.setIfInBounds_toArray, List.set_cons_zero, List.set_cons_succ]
                        refine wpHT_takeD (i := 8) (d := 146) (v := ?_) (by kernel_rfl) rfl rfl (by decide) (by kernel_rfl) (by kernel_rfl) (fun _ _ _ h => h) (Or.inl ⟨by kernel_rfl, ?_⟩) (by assumption) ?_
                        rotate_left
                        · intro w hSw; (try dsimp only at hSw); go_simp; (try with_reducible rfl)
                        try simp only [Act.put, List.setIfInBounds_toArray, List.set_cons_zero, List.set_cons_succ]
                        refine wpHT_takeD (i := 9) (d := 147) (v := ?_) (by kernel_rfl) rfl rfl (by decide) (by kernel_rfl) (by kernel_rfl) (fun _ _ _ h => h) (Or.inl ⟨by kernel_rfl, ?_⟩) (by assumption) ?_
                        rotate_left
                        · intro w hSw; (try dsimp only at hSw); go_simp; (try with_reducible rfl)
                        try simp only [Act.put, List.setIfInBounds_toArray, List.set_cons_zero, List.set_cons_succ]
                        refine wpHT_takeD (i := 10) (d := 148) (v := ?_) (by kernel_rfl) rfl rfl (by decide) (by kernel_rfl) (by kernel_rfl) (fun _ _ _ h => h) (Or.inl ⟨by kernel_rfl, ?_⟩) (by assumption) ?_
                        rotate_left
                        · intro w hSw; (try dsimp only at hSw); go_simp; (try with_reducible rfl)
                        try simp only [Act.put, List.setIfInBounds_toArray, List.set_cons_zero, List.set_cons_succ]
                        refine wpHT_takeD (i := 11) (d := 149) (v := ?_) (by kernel_rfl) rfl rfl (by decide) (by kernel_rfl) (by kernel_rfl) (fun _ _ _ h => h) (Or.inl ⟨by kernel_rfl, ?_⟩) (by assumption) ?_
                        rotate_left
                        · intro w hSw; (try dsimp only at hSw); go_simp; (try with_reducible rfl)
                        try simp only [Act.put, List.setIfInBounds_toArray, List.set_cons_zero, List.set_cons_succ]
                        refine wpHT_takeD (i := 12) (d := 150) (v := ?_) (by kernel_rfl) rfl rfl (by decide) (by kernel_rfl) (by kernel_rfl) (fun _ _ _ h => h) (Or.inl ⟨by kernel_rfl, ?_⟩) (by assumption) ?_
                        rotate_left
                        · intro w hSw; (try dsimp only at hSw); go_simp; (try with_reducible rfl)
                        try simp only [Act.put, List.setIfInBounds_toArray, List.set_cons_zero, List.set_cons_succ]
                        refine wpHT_takeD (i := 13) (d := 151) (v := ?_) (by kernel_rfl) rfl rfl (by decide) (by kernel_rfl) (by kernel_rfl) (fun _ _ _ h => h) (Or.inl ⟨by kernel_rfl, ?_⟩) (by assumption) ?_
                        rotate_left
                        · intro w hSw; (try dsimp only at hSw); go_simp; (try with_reducible rfl)
                        try simp only [Act.put, List.setIfInBounds_toArray, List.set_cons_zero, List.set_cons_succ]
                        refine wpHT_takeD (i := 14) (d := 152) (v := ?_) (by kernel_rfl) rfl rfl (by decide) (by kernel_rfl) (by kernel_rfl) (fun _ _ _ h => h) (Or.inl ⟨by kernel_rfl, ?_⟩) (by assumption) ?_
                        rotate_left
                        · intro w hSw; (try dsimp only at hSw); go_simp; (try with_reducible rfl)
                        try simp only [Act.put, List.setIfInBounds_toArray, List.set_cons_zero, List.set_cons_succ]
                        refine wpHT_takeD (i := 15) (d := 153) (v := ?_) (by kernel_rfl) rfl rfl (by decide) (by kernel_rfl) (by kernel_rfl) (fun _ _ _ h => h) (Or.inl ⟨by kernel_rfl, ?_⟩) (by assumption) ?_
                        rotate_left
                        · intro w hSw; (try dsimp only at hSw); go_simp; (try with_reducible rfl)
                        try simp only [Act.put, List.setIfInBounds_toArray, List.set_cons_zero, List.set_cons_succ]
                        refine wpHT_takeD (i := 16) (d := 154) (v := ?_) (by kernel_rfl) rfl rfl (by decide) (by kernel_rfl) (by kernel_rfl) (fun _ _ _ h => h) (Or.inl ⟨by kernel_rfl, ?_⟩) (by assumption) ?_
                        rotate_left
                        · intro w hSw; (try dsimp only at hSw); go_simp; (try with_reducible rfl)
                        try simp only [Act.put, List.setIfInBounds_toArray, List.set_cons_zero, List.set_cons_succ]
                        refine wpHT_takeD (i := 17) (d := 155) (v := ?_) (by kernel_rfl) rfl rfl (by decide) (by kernel_rfl) (by kernel_rfl) (fun _ _ _ h => h) (Or.inl ⟨by kernel_rfl, ?_⟩) (by assumption) ?_
                        rotate_left
                        · intro w hSw; (try dsimp only at hSw); go_simp; (try with_reducible rfl)
                        try simp only [Act.put, List.setIfInBounds_toArray, List.set_cons_zero, List.set_cons_succ]
                        refine wpHT_takeD (i := 18) (d := 156) (v := ?_) (by kernel_rfl) rfl rfl (by decide) (by kernel_rfl) (by kernel_rfl) (fun _ _ _ h => h) (Or.inl ⟨by kernel_rfl, ?_⟩) (by assumption) ?_
                        rotate_left
                        · intro w hSw; (try dsimp only at hSw); go_simp; (try with_reducible rfl)
                        try simp only [Act.put, List.setIfInBounds_toArray, List.set_cons_zero, List.set_cons_succ]
                        refine wpHT_takeD (i := 19) (d := 157) (v := ?_) (by kernel_rfl) rfl rfl (by decide) (by kernel_rfl) (by kernel_rfl) (fun _ _ _ h => h) (Or.inl ⟨by kernel_rfl, ?_⟩) (by assumption) ?_
                        rotate_left
                        · intro w hSw; (try dsimp only at hSw); go_simp; (try with_reducible rfl)
                        try simp only [Act.put, List.setIfInBounds_toArray, List.set_cons_zero, List.set_cons_succ]
                        refine wpHT_takeD (i := 20) (d := 158) (v := ?_) (by kernel_rfl) rfl rfl (by decide) (by kernel_rfl) (by kernel_rfl) (fun _ _ _ h => h) (Or.inl ⟨by kernel_rfl, ?_⟩) (by assumption) ?_
                        rotate_left
                        · intro w hSw; (try dsimp only at hSw); go_simp; (try with_reducible rfl)
                        try simp only [Act.put, List.setIfInBounds_toArray, List.set_cons_zero, List.set_cons_succ]
                        refine wpHT_takeD (i := 21) (d := 159) (v := ?_) (by kernel_rfl) rfl rfl (by decide) (by kernel_rfl) (by kernel_rfl) (fun _ _ _ h => h) (Or.inl ⟨by kernel_rfl, ?_⟩) (by assumption) ?_
                        rotate_left
                        · intro w hSw; (try dsimp only at hSw); go_simp; (try with_reducible rfl)
                        try simp only [Act.put, List.setIfInBounds_toArray, List.set_cons_zero, List.set_cons_succ]
                        refine wpHT_takeD (i := 22) (d := 160) (v := ?_) (by kernel_rfl) rfl rfl (by decide) (by kernel_rfl) (by kernel_rfl) (fun _ _ _ h => h) (Or.inl ⟨by kernel_rfl, ?_⟩) (by assumption) ?_
                        rotate_left
                        · intro w hSw; (try dsimp only at hSw); go_simp; (try with_reducible rfl)
                        try simp only [Act.put, List.setIfInBounds_toArray, List.set_cons_zero, List.set_cons_succ]
                        refine wpHT_takeD (i := 23) (d := 161) (v := ?_) (by kernel_rfl) rfl rfl (by decide) (by kernel_rfl) (by kernel_rfl) (fun _ _ _ h => h) (Or.inl ⟨by kernel_rfl, ?_⟩) (by assumption) ?_
                        rotate_left
                        · intro w hSw; (try dsimp only at hSw); go_simp; (try with_reducible rfl)
                        try simp only [Act.put, List.setIfInBounds_toArray, List.set_cons_zero, List.set_cons_succ]
                        refine wpHT_takeD (i := 24) (d := 162) (v := ?_) (by kernel_rfl) rfl rfl (by decide) (by kernel_rfl) (by kernel_rfl) (fun _ _ _ h => h) (Or.inl ⟨by kernel_rfl, ?_⟩) (by assumption) ?_
                        rotate_left
                        · intro w hSw; (try dsimp only at hSw); go_simp; (try with_reducible rfl)
                        try simp only [Act.put, List.setIfInBounds_toArray, List.set_cons_zero, List.set_cons_succ]
                        refine wpHT_takeD (i := 25) (d := 163) (v := ?_) (by kernel_rfl) rfl rfl (by decide) (by kernel_rfl) (by kernel_rfl) (fun _ _ _ h => h) (Or.inl ⟨by kernel_rfl, ?_⟩) (by assumption) ?_
                        rotate_left
                        · intro w hSw; (try dsimp only at hSw); go_simp; (try with_reducible rfl)
                        try simp only [Act.put, List.setIfInBounds_toArray, List.set_cons_zero, List.set_cons_succ]
                        refine wpHT_takeD (i := 26) (d := 164) (v := ?_) (by kernel_rfl) rfl rfl (by decide) (by kernel_rfl) (by kernel_rfl) (fun _ _ _ h => h) (Or.inl ⟨by kernel_rfl, ?_⟩) (by assumption) ?_
                        rotate_left
                        · intro w hSw; (try dsimp only at hSw); go_simp; (try with_reducible rfl)
                        try simp only [Act.put, List.setIfInBounds_toArray, List.set_cons_zero, List.set_cons_succ]
                        refine wpHT_takeD (i := 27) (d := 165) (v := ?_) (by kernel_rfl) rfl rfl (by decide) (by kernel_rfl) (by kernel_rfl) (fun _ _ _ h => h) (Or.inl ⟨by kernel_rfl, ?_⟩) (by assumption) ?_
                        rotate_left
                        · intro w hSw; (try dsimp only at hSw); go_simp; (try with_reducible rfl)
                        try simp only [Act.put, List.setIfInBounds_toArray, List.set_cons_zero, List.set_cons_succ]
                        refine wpHT_takeD (i := 28) (d := 166) (v := ?_) (by kernel_rfl) rfl rfl (by decide) (by kernel_rfl) (by kernel_rfl) (fun _ _ _ h => h) (Or.inl ⟨by kernel_rfl, ?_⟩) (by assumption) ?_
                        rotate_left
                        · intro w hSw; (try dsimp only at hSw); go_simp; (try with_reducible rfl)
                        try simp only [Act.put, List.setIfInBounds_toArray, List.set_cons_zero, List.set_cons_succ]
                        refine wpHT_takeD (i := 29) (d := 167) (v := ?_) (by kernel_rfl) rfl rfl (by decide) (by kernel_rfl) (by kernel_rfl) (fun _ _ _ h => h) (Or.inl ⟨by kernel_rfl, ?_⟩) (by assumption) ?_
                        rotate_left
                        · intro w hSw; (try dsimp only at hSw); go_simp; (try with_reducible rfl)
                        try simp only [Act.put, List.setIfInBounds_toArray, List.set_cons_zero, List.set_cons_succ]
                        refine wpHT_takeD (i := 30) (d := 168) (v := ?_) (by kernel_rfl) rfl rfl (by decide) (by kernel_rfl) (by kernel_rfl) (fun _ _ _ h => h) (Or.inl ⟨by kernel_rfl, ?_⟩) (by assumption) ?_
                        rotate_left
                        · intro w hSw; (try dsimp only at hSw); go_simp; (try with_reducible rfl)
                        try simp only [Act.put, List.setIfInBounds_toArray, List.set_cons_zero, List.set_cons_succ]
                        refine wpHT_takeD (i := 31) (d := 169) (v := ?_) (by kernel_rfl) rfl rfl (by decide) (by kernel_rfl) (by kernel_rfl) (fun _ _ _ h => h) (Or.inl ⟨by kernel_rfl, ?_⟩) (by assumption) ?_
                        rotate_left
                        · intro w hSw; (try dsimp only at hSw); go_simp; (try with_reducible rfl)
                        try simp only [Act.put, List.setIfInBounds_toArray, List.set_cons_zero, List.set_cons_succ]
                        refine wpHT_one (i := 32) (by kernel_rfl) rfl (by decide) (fun K hK => ?_)
                        go_simp
                        go_at_call 33
                        refine (refMay_any q.2.k q.2.x q.2.s _).mono ?_
                        rintro e W12 ⟨rfl, hb0⟩
                        have hb : Below wr.heap.size wr W12 := ((Below.refl _ wr).drew).trans hb0
                        have HB2 := Lib.hid (HBQ.out.trans (hb.mono HBQ.out.size))
                        refine hK.out _ _ ?_ (fun hHeld => ?_)
                        · exact ⟨cell_below c0 hb, cell_below c1 hb, cell_below c2 hb, cell_below c3 hb, cell_below e0 hb⟩
                        clear hK K
                        try simp only [Act.put, List.setIfInBounds_toArray, List.set_cons_zero, List.set_cons_succ]
                        refine wpHT_takeD (i := 33) (d := 171) (v := ?_) (by kernel_rfl) rfl rfl (by decide) (by kernel_rfl) (by kernel_rfl) (fun _ _ _ h => h) (Or.inl ⟨by kernel_rfl, ?_⟩) (by assumption) ?_
                        rotate_left
                        · intro w hSw; (try dsimp only at hSw); go_simp; (try with_reducible rfl)
                        try simp only [Act.put, List.setIfInBounds_toArray, List.set_cons_zero, List.set_cons_succ]
                        refine wpHT_done (by kernel_rfl) ?_
                        simp only [List.drop_succ_cons, List.drop_zero]
                        clear hHeld c0 c1 c2 c3 e0
                        rw [hmy]
                        go_wp2_with fail
                        go_roundw
                        case rel => exact ⟨i + 1, by omega, by go_num, HB2.out⟩
                        case measure => simp [intOf]; omega
                    · obtain rfl : ws.length = i := by omega
                      have hb := HBQ.out
                      clear hlt hi
                      replace HK := Lib.hid (HK.out.next hb)
                      replace HP := Lib.hid (HP.out.below hb)
                      replace HKB := Lib.hid (HKB.out.below hb)
                      replace HX6 := Lib.hid (HX6.out.below hb)
                      replace HW1 := Lib.hid (HW1.out.below hb)
                      replace HW2 := Lib.hid (HW2.out.below hb)
                      clear hb
                      clear HBQ
                      go_wp2_with fail
                      go_at_call 11
                      refine (first9_any _ HK.out.laid).mono ?_
                      rintro e W15 ⟨rfl, hb⟩
                      replace HK := Lib.hid (HK.out.next hb)
                      replace HP := Lib.hid (HP.out.below hb)
                      replace HKB := Lib.hid (HKB.out.below hb)
                      replace HX6 := Lib.hid (HX6.out.below hb)
                      replace HW1 := Lib.hid (HW1.out.below hb)
                      replace HW2 := Lib.hid (HW2.out.below hb)
                      clear hb
                      have dL : ((ws.length : Int) == ((namesP l).length : Int)) = true := by rw [HNL.out]; simp
                      go_wp2_with fail
                      go_ret
                      exact ⟨rfl, HK.out.below⟩
end Go.Proofs.YtalpbphfmelhhaaGreatDoor
