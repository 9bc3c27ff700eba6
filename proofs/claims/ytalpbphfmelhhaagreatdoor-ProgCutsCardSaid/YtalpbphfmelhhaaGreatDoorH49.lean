/-
  The walk of ProgCuts. Written by a program (lw9.py).
-/
import Derived.Test.YtalpbphfmelhhaaGreatDoorH46
import Derived.BigRegion
import Derived.Deep.DeepCutAuto
namespace Go.Proofs.YtalpbphfmelhhaaGreatDoor
open Go.RowKit Go.Maps Go.Sort
set_option maxRecDepth 100000
attribute [local go_sem] bs_size bs_get bs_toList frombits tobits run_store_float
set_option maxHeartbeats 16000000 in
theorem progCuts_walk (a : Option Addr) (n cap : Nat) (l : List OpP) (b : Option Addr) (m capb : Nat) (sn : List SnP) (z : Int) (w : World) (h : RdOr w a n cap l) (h1 : RdS w b m capb sn) (hz : (Lit.int .i64 z).wf = true) (hT : Laid w) : Calls Tryz.prog 10 #[.slice a n cap, .slice b m capb, .int .i64 z] w fun e w' => e = .returned (.bool true) ∧ Below w.heap.size w w' := by
  have HK := Lib.hid (Kp.start hT)
  clear hT
  obtain rfl : n = l.length := h.rd.1
  obtain rfl : m = sn.length := h1.rd.1
  have HR := Lib.hid h
  have HS := Lib.hid h1
  clear h h1
  have hz1 : -9223372036854775808 ≤ z ∧ z ≤ 9223372036854775807 := by simp [Lit.wf, IntKind.min, IntKind.max, IntKind.signed, IntKind.bits] at hz; omega
  have HZ := Lib.hid hz1
  clear hz1 hz
  go_enter Tryz.func10, Tryz.ntmps10
  go_wp2_with fail
  go_at_call 11
  refine (first9_any _ HK.out.laid).mono ?_
  rintro e W1 ⟨rfl, hb⟩
  replace HK := Lib.hid (HK.out.next hb)
  replace HR := Lib.hid (HR.out.below hb)
  replace HS := Lib.hid (HS.out.below hb)
  clear hb
  go_wp2_with fail
  go_at_call 12
  refine (fewO_any a l.length cap l _ HR.out).mono ?_
  rintro e W2 ⟨b, rfl, hfew, hb⟩
  replace HK := Lib.hid (HK.out.next hb)
  replace HR := Lib.hid (HR.out.below hb)
  replace HS := Lib.hid (HS.out.below hb)
  clear hb
  cases b with
  | false =>
    clear hfew
    go_wp2_with fail
    go_at_call 11
    refine (first9_any _ HK.out.laid).mono ?_
    rintro e W3 ⟨rfl, hb⟩
    replace HK := Lib.hid (HK.out.next hb)
    replace HR := Lib.hid (HR.out.below hb)
    replace HS := Lib.hid (HS.out.below hb)
    clear hb
    go_wp2_with fail
    go_ret
    exact ⟨rfl, HK.out.below⟩
  | true =>
    have HF := Lib.hid (hfew rfl)
    have HP := Lib.hid (HR.out.few HF.out)
    have hn : l.length ≤ 1000 := Nat.le_trans HF.out.1 (by decide)
    clear hfew
    go_wp2_with fail
    go_at_call 22
    refine (fewSeen_any b sn.length capb sn _ HS.out).mono ?_
    rintro e W4 ⟨b, rfl, hfs, hb⟩
    replace HK := Lib.hid (HK.out.next hb)
    replace HR := Lib.hid (HR.out.below hb)
    replace HS := Lib.hid (HS.out.below hb)
    replace HP := Lib.hid (HP.out.below hb)
    clear hb
    cases b with
    | false =>
      clear hfs
      go_wp2_with fail
      go_at_call 11
      refine (first9_any _ HK.out.laid).mono ?_
      rintro e W5 ⟨rfl, hb⟩
      replace HK := Lib.hid (HK.out.next hb)
      replace HR := Lib.hid (HR.out.below hb)
      replace HS := Lib.hid (HS.out.below hb)
      replace HP := Lib.hid (HP.out.below hb)
      clear hb
      go_wp2_with fail
      go_ret
      exact ⟨rfl, HK.out.below⟩
    | true =>
      have hsn : sn.length ≤ 1000 := Nat.le_trans (hfs rfl) (by decide)
      clear hfs
      obtain ⟨ck, hck⟩ : ∃ ck, checkP l = ck := ⟨_, rfl⟩
      have HC := Lib.hid (check_all a l.length cap l)
      rw [hck] at HC
      have HCK := Lib.hid hck
      clear hck
      go_wp2_with fail
      go_at_call 16
      refine (HC.out _ HP.out).mono ?_
      rintro e W6 ⟨rfl, hb⟩
      replace HK := Lib.hid (HK.out.next hb)
      replace HR := Lib.hid (HR.out.below hb)
      replace HS := Lib.hid (HS.out.below hb)
      replace HP := Lib.hid (HP.out.below hb)
      clear hb
      by_cases hc0 : ck = 0
      case neg =>
        have hc0b : (ck != 0) = true := by simp [hc0]
        clear hc0
        go_wp2_with fail
        go_at_call 11
        refine (first9_any _ HK.out.laid).mono ?_
        rintro e W7 ⟨rfl, hb⟩
        replace HK := Lib.hid (HK.out.next hb)
        replace HR := Lib.hid (HR.out.below hb)
        replace HS := Lib.hid (HS.out.below hb)
        replace HP := Lib.hid (HP.out.below hb)
        clear hb
        go_wp2_with fail
        go_ret
        exact ⟨rfl, HK.out.below⟩
      case pos =>
        subst hc0
        obtain ⟨hz1, hz2⟩ := HZ.out
        go_upto_if 35 with fail
        go_cut [2] (fun s2 wx => (∃ A : Nat, s2 = .int .i64 A ∧ (A : Int) ≤ 9223372036854775807) ∧ W6 = wx)
        case first =>
          by_cases hn' : z < 0
          · have d1 : decide (z < 0) = true := decide_eq_true hn'
            go_wp2
            go_meet
            exact ⟨⟨(-(z + 1)).toNat, by congr 1; omega, by omega⟩, rfl⟩
          · have d1 : decide (z < 0) = false := decide_eq_false hn'
            go_wp2
            go_meet
            exact ⟨⟨z.toNat, by congr 1; omega, by omega⟩, rfl⟩
        case rest =>
          obtain ⟨⟨A, rfl, hA⟩, rfl⟩ := hcut
          clear hz1 hz2
          obtain ⟨k, hk⟩ : ∃ k, A % (l.length + 1) = k := ⟨_, rfl⟩
          have hkl : k ≤ l.length := by have := Nat.mod_lt A (show 0 < l.length + 1 by omega); omega
          have hkI : ((k : Nat) : Int) = (A : Int) % ((l.length : Int) + 1) := by rw [← hk]; rfl
          have m0 : (0 : Int) ≤ (A : Int) % ((l.length : Int) + 1) := by omega
          have m1 : (A : Int) % ((l.length : Int) + 1) < (l.length : Int) + 1 := by omega
          have hz0 : (((l.length : Int) + 1) == 0) = false := beq_eq_false_iff_ne.2 (by omega)
          obtain ⟨aq, cq, hsl, hrt⟩ := RdE_take opCells5 HP.out.rd k hkl _ SOp
          have HPQ := Lib.hid (RdO.mk hrt fun o ho => HP.out.ok o (List.mem_of_mem_take ho))
          rw [hkI] at hsl
          have hsl : ∀ w', (Instr.slice 22 (.slice a l.length cap) none (some (.int .i64 ((A : Int) % ((l.length : Int) + 1)))) none).run Tryz.prog w' = .ok (.slice aq k cq) w' := hsl
          obtain ⟨q, hq⟩ : ∃ q, l.take k = q := ⟨_, rfl⟩
          have HCQ : Hid (checkP q = 0) := check_front (q := l.drop k) (by rw [← hq, List.take_append_drop]; exact HCK.out)
          have HKR : Hid (∀ x ∈ readsP q, x ∈ readsP l) := by
            intro x hx
            have h9 : l = q ++ l.drop k := by rw [← hq, List.take_append_drop]
            rw [h9]; exact named_sub hx
          have HKN : Hid (∀ x ∈ namesP q, x ∈ namesP l) := by
            intro x hx
            have h9 : l = q ++ l.drop k := by rw [← hq, List.take_append_drop]
            rw [h9]; exact named_sub hx
          have HRN : Hid (runE l sn ≠ 8 → runE l sn ≠ 4 → runE q sn = 0 ∨ runE q sn = runE l sn) := by
            intro h8 h4
            have h9 : l = q ++ l.drop k := by rw [← hq, List.take_append_drop]
            rw [h9] at h8 h4 ⊢
            exact cuts_run (by rw [← h9]; exact HCK.out) h8 h4
          rw [hq] at HPQ
          have HCC := Lib.hid (check_all aq k cq q)
          rw [HCQ.out] at HCC
          clear hrt hq hk hkI
          go_wp2_with fail
          go_at_call 16
          refine (HCC.out _ HPQ.out).mono ?_
          rintro e W8 ⟨rfl, hb⟩
          replace HK := Lib.hid (HK.out.next hb)
          replace HR := Lib.hid (HR.out.below hb)
          replace HS := Lib.hid (HS.out.below hb)
          replace HP := Lib.hid (HP.out.below hb)
          replace HPQ := Lib.hid (HPQ.out.below hb)
          clear hb
          go_wp2_with fail
          go_at_call 14
          refine (reads_any aq k cq q _ HPQ.out (by omega)).mono ?_
          rintro e W9 ⟨v, rfl, ho, hb⟩
          obtain ⟨ak, ck, rfl, hrk⟩ := OwnK.rd ho
          have HKA := Lib.hid hrk
          clear ho hrk
          replace HK := Lib.hid (HK.out.next hb)
          replace HR := Lib.hid (HR.out.below hb)
          replace HS := Lib.hid (HS.out.below hb)
          replace HP := Lib.hid (HP.out.below hb)
          replace HPQ := Lib.hid (HPQ.out.below hb)
          clear hb
          go_wp2_with fail
          go_at_call 14
          refine (reads_any a l.length cap l _ HP.out (by omega)).mono ?_
          rintro e W10 ⟨v, rfl, ho, hb⟩
          obtain ⟨ak2, ck2, rfl, hrk⟩ := OwnK.rd ho
          have HKB := Lib.hid hrk
          clear ho hrk
          replace HK := Lib.hid (HK.out.next hb)
          replace HR := Lib.hid (HR.out.below hb)
          replace HS := Lib.hid (HS.out.below hb)
          replace HP := Lib.hid (HP.out.below hb)
          replace HPQ := Lib.hid (HPQ.out.below hb)
          replace HKA := Lib.hid (HKA.out.below hb)
          clear hb
          obtain ⟨kq, hkq⟩ : ∃ kq, readsP q = kq := ⟨_, rfl⟩
          obtain ⟨kp, hkp⟩ : ∃ kp, readsP l = kp := ⟨_, rfl⟩
          have HSU := Lib.hid HKR.out
          rw [hkq] at HKA HSU ⊢
          rw [hkp] at HKB HSU ⊢
          clear hkq hkp
          have hkl1 : kq.length ≤ 9223372036854775807 := Nat.le_trans HKA.out.2.1 HKA.out.2.2.1
          obtain ⟨Wl, hWl⟩ : ∃ Wl, W10 = Wl := ⟨_, rfl⟩
          subst hWl
          go_wp2_with fail
          go_loopw [10] (fun i WZ => ∃ j : Nat, j ≤ kq.length ∧ i = .int .i64 (j : Nat) ∧ WZ = W10) (fun i _ => kq.length - (intOf i).toNat)
          case atStart => exact ⟨0, Nat.zero_le _, rfl, rfl⟩
          case round =>
            obtain ⟨j, hj, rfl, rfl⟩ := hrel
            by_cases hlt : j < kq.length
            · obtain ⟨x, hx⟩ : ∃ x, kq[j]? = some x := ⟨_, List.getElem?_eq_getElem hlt⟩
              have hany : (kp.any fun k => k == x) = true := List.any_eq_true.2 ⟨x, HSU.out x (List.mem_of_getElem? hx), by simp⟩
              obtain ⟨bk, offk, rfl, k0⟩ := HKA.out.at hx
              have HHS := Lib.hid (has_any ak2 kp.length ck2 kp x _ HKB.out)
              rw [hany] at HHS
              clear hx hany
              go_wp2_with fail
              go_at_call 32
              refine (HHS.out).mono ?_
              rintro e W ⟨rfl, rfl⟩
              go_wp2_with fail
              go_roundw
              case rel => exact ⟨j + 1, by omega, by go_num, by first | trivial | rfl⟩
              case measure => simp [intOf]; omega
            · obtain rfl : kq.length = j := by omega
              clear hlt hj hkl1
              clear HKA HKB HSU
              go_wp2_with fail
              go_at_call 15
              refine (names_any aq k cq q _ HPQ.out (by omega)).mono ?_
              rintro e W11 ⟨v, rfl, ho, hb⟩
              obtain ⟨ak, ck, rfl, hrk⟩ := OwnK.rd ho
              have HKA := Lib.hid hrk
              clear ho hrk
              replace HK := Lib.hid (HK.out.next hb)
              replace HR := Lib.hid (HR.out.below hb)
              replace HS := Lib.hid (HS.out.below hb)
              replace HP := Lib.hid (HP.out.below hb)
              replace HPQ := Lib.hid (HPQ.out.below hb)
              clear hb
              go_wp2_with fail
              go_at_call 15
              refine (names_any a l.length cap l _ HP.out (by omega)).mono ?_
              rintro e W12 ⟨v, rfl, ho, hb⟩
              obtain ⟨ak2, ck2, rfl, hrk⟩ := OwnK.rd ho
              have HKB := Lib.hid hrk
              clear ho hrk
              replace HK := Lib.hid (HK.out.next hb)
              replace HR := Lib.hid (HR.out.below hb)
              replace HS := Lib.hid (HS.out.below hb)
              replace HP := Lib.hid (HP.out.below hb)
              replace HPQ := Lib.hid (HPQ.out.below hb)
              replace HKA := Lib.hid (HKA.out.below hb)
              clear hb
              obtain ⟨kq, hkq⟩ : ∃ kq, namesP q = kq := ⟨_, rfl⟩
              obtain ⟨kp, hkp⟩ : ∃ kp, namesP l = kp := ⟨_, rfl⟩
              have HSU := Lib.hid HKN.out
              rw [hkq] at HKA HSU ⊢
              rw [hkp] at HKB HSU ⊢
              clear hkq hkp
              have hkl1 : kq.length ≤ 9223372036854775807 := Nat.le_trans HKA.out.2.1 HKA.out.2.2.1
              obtain ⟨Wl, hWl⟩ : ∃ Wl, W12 = Wl := ⟨_, rfl⟩
              subst hWl
              go_wp2_with fail
              go_loopw [13] (fun i WZ => ∃ j : Nat, j ≤ kq.length ∧ i = .int .i64 (j : Nat) ∧ WZ = W12) (fun i _ => kq.length - (intOf i).toNat)
              case atStart => exact ⟨0, Nat.zero_le _, rfl, rfl⟩
              case round =>
                obtain ⟨j, hj, rfl, rfl⟩ := hrel
                by_cases hlt : j < kq.length
                · obtain ⟨x, hx⟩ : ∃ x, kq[j]? = some x := ⟨_, List.getElem?_eq_getElem hlt⟩
                  have hany : (kp.any fun k => k == x) = true := List.any_eq_true.2 ⟨x, HSU.out x (List.mem_of_getElem? hx), by simp⟩
                  obtain ⟨bk, offk, rfl, k0⟩ := HKA.out.at hx
                  have HHS := Lib.hid (has_any ak2 kp.length ck2 kp x _ HKB.out)
                  rw [hany] at HHS
                  clear hx hany
                  go_wp2_with fail
                  go_at_call 32
                  refine (HHS.out).mono ?_
                  rintro e W ⟨rfl, rfl⟩
                  go_wp2_with fail
                  go_roundw
                  case rel => exact ⟨j + 1, by omega, by go_num, by first | trivial | rfl⟩
                  case measure => simp [intOf]; omega
                · obtain rfl : kq.length = j := by omega
                  clear hlt hj hkl1
                  clear HKA HKB HSU
                  go_wp2_with fail
                  go_at_call 24
                  refine (run_any aq k cq q b sn.length capb sn _ HPQ.out HS.out (by omega)).mono ?_
                  rintro e W13 ⟨v, rfl, ho, hb⟩
                  obtain ⟨aw, cw, rfl, hrw⟩ := Rd.of_own ho
                  have HW1 : Hid (RdE wrCells 4 W13 aw (runW q sn).length cw (runW q sn)) := ⟨rfl, hrw⟩
                  clear ho hrw
                  replace HK := Lib.hid (HK.out.next hb)
                  replace HR := Lib.hid (HR.out.below hb)
                  replace HS := Lib.hid (HS.out.below hb)
                  replace HP := Lib.hid (HP.out.below hb)
                  replace HPQ := Lib.hid (HPQ.out.below hb)
                  clear hb
                  go_wp2_with fail
                  go_at_call 24
                  refine (run_any a l.length cap l b sn.length capb sn _ HP.out HS.out (by omega)).mono ?_
                  rintro e W14 ⟨v, rfl, ho, hb⟩
                  obtain ⟨aw2, cw2, rfl, hrw⟩ := Rd.of_own ho
                  have HW2 : Hid (RdE wrCells 4 W14 aw2 (runW l sn).length cw2 (runW l sn)) := ⟨rfl, hrw⟩
                  clear ho hrw
                  replace HK := Lib.hid (HK.out.next hb)
                  replace HR := Lib.hid (HR.out.below hb)
                  replace HS := Lib.hid (HS.out.below hb)
                  replace HP := Lib.hid (HP.out.below hb)
                  replace HPQ := Lib.hid (HPQ.out.below hb)
                  replace HW1 := Lib.hid (HW1.out.below hb)
                  clear hb
                  have HRE := Lib.hid HRN.out
                  obtain ⟨eq, heq⟩ : ∃ eq, runE q sn = eq := ⟨_, rfl⟩
                  obtain ⟨el, hel⟩ : ∃ el, runE l sn = el := ⟨_, rfl⟩
                  rw [heq, hel] at HRE
                  rw [heq, hel]
                  clear heq hel HW1 HW2
                  by_cases h8 : el = 8
                  case pos =>
                    subst h8
                    go_wp2_with fail
                    go_at_call 11
                    refine (first9_any _ HK.out.laid).mono ?_
                    rintro e W15 ⟨rfl, hb⟩
                    replace HK := Lib.hid (HK.out.next hb)
                    replace HR := Lib.hid (HR.out.below hb)
                    replace HS := Lib.hid (HS.out.below hb)
                    replace HP := Lib.hid (HP.out.below hb)
                    replace HPQ := Lib.hid (HPQ.out.below hb)
                    clear hb
                    go_wp2_with fail
                    go_ret
                    exact ⟨rfl, HK.out.below⟩
                  case neg =>
                    have h8b : (el == 8) = false := beq_eq_false_iff_ne.2 h8
                    by_cases h4 : el = 4
                    case pos =>
                      subst h4
                      go_wp2_with fail
                      go_at_call 11
                      refine (first9_any _ HK.out.laid).mono ?_
                      rintro e W16 ⟨rfl, hb⟩
                      replace HK := Lib.hid (HK.out.next hb)
                      replace HR := Lib.hid (HR.out.below hb)
                      replace HS := Lib.hid (HS.out.below hb)
                      replace HP := Lib.hid (HP.out.below hb)
                      replace HPQ := Lib.hid (HPQ.out.below hb)
                      clear hb
                      go_wp2_with fail
                      go_ret
                      exact ⟨rfl, HK.out.below⟩
                    case neg =>
                      have h4b : (el == 4) = false := beq_eq_false_iff_ne.2 h4
                      have HEE := Lib.hid (HRE.out h8 h4)
                      clear h8 h4
                      by_cases h0 : eq = 0
                      case pos =>
                        subst h0
                        go_wp2_with fail
                        go_at_call 11
                        refine (first9_any _ HK.out.laid).mono ?_
                        rintro e W17 ⟨rfl, hb⟩
                        replace HK := Lib.hid (HK.out.next hb)
                        replace HR := Lib.hid (HR.out.below hb)
                        replace HS := Lib.hid (HS.out.below hb)
                        replace HP := Lib.hid (HP.out.below hb)
                        replace HPQ := Lib.hid (HPQ.out.below hb)
                        clear hb
                        go_wp2_with fail
                        go_ret
                        exact ⟨rfl, HK.out.below⟩
                      case neg =>
                        have h0b : (eq == 0) = false := beq_eq_false_iff_ne.2 h0
                        obtain rfl : eq = el := HEE.out.resolve_left h0
                        clear h0
                        go_wp2_with fail
                        go_at_call 11
                        refine (first9_any _ HK.out.laid).mono ?_
                        rintro e W18 ⟨rfl, hb⟩
                        replace HK := Lib.hid (HK.out.next hb)
                        replace HR := Lib.hid (HR.out.below hb)
                        replace HS := Lib.hid (HS.out.below hb)
                        replace HP := Lib.hid (HP.out.below hb)
                        replace HPQ := Lib.hid (HPQ.out.below hb)
                        clear hb
                        go_wp2_with fail
                        go_ret
                        exact ⟨rfl, HK.out.below⟩
end Go.Proofs.YtalpbphfmelhhaaGreatDoor
