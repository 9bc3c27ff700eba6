/-
  The walk of ProgTexts. Written by a program (lw9.py).
-/
import Derived.Test.YtalpbphfmelhhaaGreatDoorH46
import Derived.Test.YtalpbphfmelhhaaGreatDoorH38
namespace Go.Proofs.YtalpbphfmelhhaaGreatDoor
open Go.RowKit Go.Maps Go.Sort
set_option maxRecDepth 100000
attribute [local go_sem] bs_size bs_get bs_toList frombits tobits run_store_float
set_option maxHeartbeats 16000000 in
theorem progTexts_walk (a : Option Addr) (n cap : Nat) (l : List OpP) (s : List UInt8) (w : World) (h : RdOr w a n cap l) (hT : Laid w) : Calls Tryz.prog 5 #[.slice a n cap, .string (bs s)] w fun e w' => e = .returned (.bool true) ∧ Below w.heap.size w w' := by
  have HK := Lib.hid (Kp.start hT)
  clear hT
  obtain rfl : n = l.length := h.rd.1
  have HR := Lib.hid h
  clear h
  have hsz : (bs s).size = s.length := bs_size s
  go_enter Tryz.func5, Tryz.ntmps5
  go_wp2_with fail
  go_at_call 11
  refine (first9_any _ HK.out.laid).mono ?_
  rintro e W1 ⟨rfl, hb⟩
  replace HK := Lib.hid (HK.out.next hb)
  replace HR := Lib.hid (HR.out.below hb)
  clear hb
  go_wp2_with fail
  go_at_call 12
  refine (fewO_any a l.length cap l _ HR.out).mono ?_
  rintro e W2 ⟨b, rfl, hfew, hb⟩
  replace HK := Lib.hid (HK.out.next hb)
  replace HR := Lib.hid (HR.out.below hb)
  clear hb
  cases b with
  | false =>
    clear hfew
    go_wp2_with fail
    go_at_call 11
    refine (first9_any _ HK.out.laid).mono ?_
    rintro e W3 ⟨rfl, hb⟩
    replace HK := Lib.hid (HK.out.next hb)
    replace HR := Lib.hid (HR.out.below hb)
    clear hb
    go_wp2_with fail
    go_ret
    exact ⟨rfl, HK.out.below⟩
  | true =>
    have HF := Lib.hid (hfew rfl)
    have HP := Lib.hid (HR.out.few HF.out)
    have hn : l.length ≤ 1000 := Nat.le_trans HF.out.1 (by decide)
    clear hfew
    by_cases hs : 20000 < s.length
    · have d1 : decide ((20000 : Int) < (s.length : Int)) = true := decide_eq_true (by omega)
      go_wp2_with fail
      go_at_call 11
      refine (first9_any _ HK.out.laid).mono ?_
      rintro e W4 ⟨rfl, hb⟩
      replace HK := Lib.hid (HK.out.next hb)
      replace HR := Lib.hid (HR.out.below hb)
      replace HP := Lib.hid (HP.out.below hb)
      clear hb
      go_wp2_with fail
      go_ret
      exact ⟨rfl, HK.out.below⟩
    · have d1 : decide ((20000 : Int) < (s.length : Int)) = false := decide_eq_false (by omega)
      go_wp2_with fail
      go_at_call 28
      refine (prgParse_any s (by omega) _).mono ?_
      rintro e W5 ⟨v, rfl, ho, hb⟩
      obtain ⟨aq, cq, rfl, hri⟩ := OwnO5.rd ho
      have HQ1 := Lib.hid hri
      clear ho hri
      replace HK := Lib.hid (HK.out.next hb)
      replace HR := Lib.hid (HR.out.below hb)
      replace HP := Lib.hid (HP.out.below hb)
      clear hb
      go_wp2_with fail
      go_at_call 29
      refine (prgParse9_any s (by omega) _).mono ?_
      rintro e W6 ⟨v, rfl, ho, hb⟩
      obtain ⟨aq2, cq2, rfl, hri⟩ := OwnO5.rd ho
      have HQ2 := Lib.hid hri
      clear ho hri
      replace HK := Lib.hid (HK.out.next hb)
      replace HR := Lib.hid (HR.out.below hb)
      replace HP := Lib.hid (HP.out.below hb)
      replace HQ1 := Lib.hid (HQ1.out.below hb)
      clear hb
      generalize (parseP s).1 = er
      go_wp2_with fail
      go_at_call 11
      refine (first9_any _ HK.out.laid).mono ?_
      rintro e W7 ⟨rfl, hb⟩
      replace HK := Lib.hid (HK.out.next hb)
      replace HR := Lib.hid (HR.out.below hb)
      replace HP := Lib.hid (HP.out.below hb)
      replace HQ1 := Lib.hid (HQ1.out.below hb)
      replace HQ2 := Lib.hid (HQ2.out.below hb)
      clear hb
      go_wp2_with fail
      go_at_call 30
      refine (prgPrint_any a l.length cap l _ HP.out (by omega) HK.out.laid).mono ?_
      rintro e W8 ⟨rfl, hb⟩
      replace HK := Lib.hid (HK.out.next hb)
      replace HR := Lib.hid (HR.out.below hb)
      replace HP := Lib.hid (HP.out.below hb)
      replace HQ1 := Lib.hid (HQ1.out.below hb)
      replace HQ2 := Lib.hid (HQ2.out.below hb)
      clear hb
      go_wp2_with fail
      go_at_call 31
      refine (prgPrint9_any a l.length cap l _ HP.out (by omega) HK.out.laid).mono ?_
      rintro e W9 ⟨rfl, hb⟩
      replace HK := Lib.hid (HK.out.next hb)
      replace HR := Lib.hid (HR.out.below hb)
      replace HP := Lib.hid (HP.out.below hb)
      replace HQ1 := Lib.hid (HQ1.out.below hb)
      replace HQ2 := Lib.hid (HQ2.out.below hb)
      clear hb
      go_wp2_with fail
      go_at_call 21
      refine (ops_same _ _ _ _ _ _ _ HQ1.out HQ2.out (parseP_len s)).mono ?_
      rintro e W10 ⟨rfl, hb⟩
      replace HK := Lib.hid (HK.out.next hb)
      replace HR := Lib.hid (HR.out.below hb)
      replace HP := Lib.hid (HP.out.below hb)
      replace HQ1 := Lib.hid (HQ1.out.below hb)
      replace HQ2 := Lib.hid (HQ2.out.below hb)
      clear hb
      go_wp2_with fail
      go_ret
      exact ⟨rfl, HK.out.below⟩
end Go.Proofs.YtalpbphfmelhhaaGreatDoor
