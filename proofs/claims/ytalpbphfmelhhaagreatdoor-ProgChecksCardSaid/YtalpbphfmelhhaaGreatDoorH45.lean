/-
  The walk of ProgChecks. Written by a program (lw9.py).
-/
import Derived.Test.YtalpbphfmelhhaaGreatDoorJE
namespace Go.Proofs.YtalpbphfmelhhaaGreatDoor
open Go.RowKit Go.Maps Go.Sort
set_option maxRecDepth 100000
attribute [local go_sem] bs_size bs_get bs_toList frombits tobits run_store_float
set_option maxHeartbeats 16000000 in
theorem progChecks_walk (a : Option Addr) (n cap : Nat) (l : List OpP) (w : World) (h : RdOr w a n cap l) (hT : Laid w) : Calls Tryz.prog 3 #[.slice a n cap] w fun e w' => e = .returned (.bool true) ∧ Below w.heap.size w w' := by
  have HK := Lib.hid (Kp.start hT)
  clear hT
  obtain rfl : n = l.length := h.rd.1
  have HR := Lib.hid h
  clear h
  go_enter Tryz.func3, Tryz.ntmps3
  go_wp2_with fail
  go_at_call 11
  refine (first9_any _ HK.out.laid).mono ?_
  rintro e W1 ⟨rfl, hb⟩
  replace HK := Lib.hid (HK.out.next hb)
  replace HR := Lib.hid (HR.out.below hb)
  clear hb
  go_wp2_with fail
  go_at_call 12
  refine (fewO_any a l.length cap l _ HR.out).mono ?_
  rintro e W2 ⟨b, rfl, hfew, hb⟩
  replace HK := Lib.hid (HK.out.next hb)
  replace HR := Lib.hid (HR.out.below hb)
  clear hb
  cases b with
  | false =>
    clear hfew
    go_wp2_with fail
    go_at_call 11
    refine (first9_any _ HK.out.laid).mono ?_
    rintro e W3 ⟨rfl, hb⟩
    replace HK := Lib.hid (HK.out.next hb)
    replace HR := Lib.hid (HR.out.below hb)
    clear hb
    go_wp2_with fail
    go_ret
    exact ⟨rfl, HK.out.below⟩
  | true =>
    have HF := Lib.hid (hfew rfl)
    have HP := Lib.hid (HR.out.few HF.out)
    have hn : l.length ≤ 1000 := Nat.le_trans HF.out.1 (by decide)
    clear hfew
    go_wp2_with fail
    go_at_call 13
    refine (copyOps_any a l.length cap l _ HP.out (by omega)).mono ?_
    rintro e W4 ⟨v, rfl, ho, hb⟩
    obtain ⟨ai, ci, rfl, hri⟩ := OwnO5.rd ho
    have HIN := Lib.hid (RdO.mk hri HP.out.ok)
    clear ho hri
    replace HK := Lib.hid (HK.out.next hb)
    replace HR := Lib.hid (HR.out.below hb)
    replace HP := Lib.hid (HP.out.below hb)
    clear hb
    go_wp2_with fail
    go_at_call 14
    refine (reads_any ai l.length ci l _ HIN.out (by omega)).mono ?_
    rintro e W5 ⟨v, rfl, ho, hb⟩
    obtain ⟨ak, ck, rfl, hrk⟩ := OwnK.rd ho
    have HKA := Lib.hid hrk
    clear ho hrk
    replace HK := Lib.hid (HK.out.next hb)
    replace HR := Lib.hid (HR.out.below hb)
    replace HP := Lib.hid (HP.out.below hb)
    replace HIN := Lib.hid (HIN.out.below hb)
    clear hb
    go_wp2_with fail
    go_at_call 15
    refine (names_any ai l.length ci l _ HIN.out (by omega)).mono ?_
    rintro e W6 ⟨v, rfl, ho, hb⟩
    obtain ⟨ak2, ck2, rfl, hrk⟩ := OwnK.rd ho
    have HKB := Lib.hid hrk
    clear ho hrk
    replace HK := Lib.hid (HK.out.next hb)
    replace HR := Lib.hid (HR.out.below hb)
    replace HP := Lib.hid (HP.out.below hb)
    replace HIN := Lib.hid (HIN.out.below hb)
    replace HKA := Lib.hid (HKA.out.below hb)
    clear hb
    go_wp2_with fail
    go_at_call 11
    refine (first9_any _ HK.out.laid).mono ?_
    rintro e W7 ⟨rfl, hb⟩
    replace HK := Lib.hid (HK.out.next hb)
    replace HR := Lib.hid (HR.out.below hb)
    replace HP := Lib.hid (HP.out.below hb)
    replace HIN := Lib.hid (HIN.out.below hb)
    replace HKA := Lib.hid (HKA.out.below hb)
    replace HKB := Lib.hid (HKB.out.below hb)
    clear hb
    go_wp2_with fail
    go_at_call 16
    refine (check_all ai l.length ci l _ HIN.out).mono ?_
    rintro e W8 ⟨rfl, hb⟩
    replace HK := Lib.hid (HK.out.next hb)
    replace HR := Lib.hid (HR.out.below hb)
    replace HP := Lib.hid (HP.out.below hb)
    replace HIN := Lib.hid (HIN.out.below hb)
    replace HKA := Lib.hid (HKA.out.below hb)
    replace HKB := Lib.hid (HKB.out.below hb)
    clear hb
    go_wp2_with fail
    go_at_call 17
    refine (check9_all a l.length cap l _ HP.out).mono ?_
    rintro e W9 ⟨rfl, hb⟩
    replace HK := Lib.hid (HK.out.next hb)
    replace HR := Lib.hid (HR.out.below hb)
    replace HP := Lib.hid (HP.out.below hb)
    replace HIN := Lib.hid (HIN.out.below hb)
    replace HKA := Lib.hid (HKA.out.below hb)
    replace HKB := Lib.hid (HKB.out.below hb)
    clear hb
    go_wp2_with fail
    go_at_call 19
    refine (reads9_any a l.length cap l _ HP.out (by omega)).mono ?_
    rintro e W10 ⟨v, rfl, ho, hb⟩
    obtain ⟨ak3, ck3, rfl, hrk⟩ := OwnK.rd ho
    have HKC := Lib.hid hrk
    clear ho hrk
    replace HK := Lib.hid (HK.out.next hb)
    replace HR := Lib.hid (HR.out.below hb)
    replace HP := Lib.hid (HP.out.below hb)
    replace HIN := Lib.hid (HIN.out.below hb)
    replace HKA := Lib.hid (HKA.out.below hb)
    replace HKB := Lib.hid (HKB.out.below hb)
    clear hb
    go_wp2_with fail
    go_at_call 18
    refine (texts_same9 _ _ _ _ _ _ _ HKA.out HKC.out).mono ?_
    rintro e W11 ⟨rfl, hb⟩
    replace HK := Lib.hid (HK.out.next hb)
    replace HR := Lib.hid (HR.out.below hb)
    replace HP := Lib.hid (HP.out.below hb)
    replace HIN := Lib.hid (HIN.out.below hb)
    replace HKA := Lib.hid (HKA.out.below hb)
    replace HKB := Lib.hid (HKB.out.below hb)
    replace HKC := Lib.hid (HKC.out.below hb)
    clear hb
    go_wp2_with fail
    go_at_call 20
    refine (names9_any a l.length cap l _ HP.out (by omega)).mono ?_
    rintro e W12 ⟨v, rfl, ho, hb⟩
    obtain ⟨ak4, ck4, rfl, hrk⟩ := OwnK.rd ho
    have HKD := Lib.hid hrk
    clear ho hrk
    replace HK := Lib.hid (HK.out.next hb)
    replace HR := Lib.hid (HR.out.below hb)
    replace HP := Lib.hid (HP.out.below hb)
    replace HIN := Lib.hid (HIN.out.below hb)
    replace HKA := Lib.hid (HKA.out.below hb)
    replace HKB := Lib.hid (HKB.out.below hb)
    replace HKC := Lib.hid (HKC.out.below hb)
    clear hb
    go_wp2_with fail
    go_at_call 18
    refine (texts_same9 _ _ _ _ _ _ _ HKB.out HKD.out).mono ?_
    rintro e W13 ⟨rfl, hb⟩
    replace HK := Lib.hid (HK.out.next hb)
    replace HR := Lib.hid (HR.out.below hb)
    replace HP := Lib.hid (HP.out.below hb)
    replace HIN := Lib.hid (HIN.out.below hb)
    replace HKA := Lib.hid (HKA.out.below hb)
    replace HKB := Lib.hid (HKB.out.below hb)
    replace HKC := Lib.hid (HKC.out.below hb)
    replace HKD := Lib.hid (HKD.out.below hb)
    clear hb
    go_wp2_with fail
    go_at_call 21
    refine (ops_same _ _ _ _ _ _ _ HIN.out.rd HP.out.rd (by omega)).mono ?_
    rintro e W14 ⟨rfl, hb⟩
    replace HK := Lib.hid (HK.out.next hb)
    replace HR := Lib.hid (HR.out.below hb)
    replace HP := Lib.hid (HP.out.below hb)
    replace HIN := Lib.hid (HIN.out.below hb)
    replace HKA := Lib.hid (HKA.out.below hb)
    replace HKB := Lib.hid (HKB.out.below hb)
    replace HKC := Lib.hid (HKC.out.below hb)
    replace HKD := Lib.hid (HKD.out.below hb)
    clear hb
    go_wp2_with fail
    go_ret
    exact ⟨rfl, HK.out.below⟩
end Go.Proofs.YtalpbphfmelhhaaGreatDoor
