/-
  The walk of ProgRuns. Written by a program (lw9.py).
-/
import Derived.Test.YtalpbphfmelhhaaGreatDoorJE
namespace Go.Proofs.YtalpbphfmelhhaaGreatDoor
open Go.RowKit Go.Maps Go.Sort
set_option maxRecDepth 100000
attribute [local go_sem] bs_size bs_get bs_toList frombits tobits run_store_float
theorem runW_len (p : List OpP) (sn : List SnP) : (runW p sn).length ≤ 1000 := by
  by_cases h : runE p sn = 0
  · obtain ⟨_, h2, _⟩ := run_facts h
    have h3 := (check_parts (run_check h)).2.2.2
    rw [← h2, List.length_map] at h3
    omega
  · rw [runW_err h]; simp
theorem parseP_len (s : List UInt8) : (parseP s).2.length ≤ 1000 := by
  by_cases h : (parseP s).1 = 0
  · have := (check_parts (parseP_ok h)).1; omega
  · rw [parseP_err h]; simp
theorem Rd.lits (w : World) (cs : Array Value) (n m : Nat) (hm : cs.size = n * m) (hn : n ≤ maxLen) (e : TypeId) : Rd (w.alloc (.cells cs e)) (some ⟨w.heap.size, 0, none⟩) n n m cs.toList := by
  refine ⟨Nat.le_refl _, hn, (fun h => by cases h), by simp [hm], fun j u hj => ⟨w.heap.size, 0, rfl, ?_⟩⟩
  rw [Nat.zero_add, cell_of_row _ w.heap.size j cs e (0, 0) (heap_alloc_new w _)]
  simpa using hj
set_option maxHeartbeats 16000000 in
theorem progRuns_walk (a : Option Addr) (n cap : Nat) (l : List OpP) (b : Option Addr) (m capb : Nat) (sn : List SnP)  (w : World) (h : RdOr w a n cap l) (h1 : RdS w b m capb sn)  (hT : Laid w) : Calls Tryz.prog 4 #[.slice a n cap, .slice b m capb] w fun e w' => e = .returned (.bool true) ∧ Below w.heap.size w w' := by
  have HK := Lib.hid (Kp.start hT)
  clear hT
  obtain rfl : n = l.length := h.rd.1
  obtain rfl : m = sn.length := h1.rd.1
  have HR := Lib.hid h
  have HS := Lib.hid h1
  clear h h1
  go_enter Tryz.func4, Tryz.ntmps4
  go_wp2_with fail
  go_at_call 11
  refine (first9_any _ HK.out.laid).mono ?_
  rintro e W1 ⟨rfl, hb⟩
  replace HK := Lib.hid (HK.out.next hb)
  replace HR := Lib.hid (HR.out.below hb)
  replace HS := Lib.hid (HS.out.below hb)
  clear hb
  go_wp2_with fail
  go_at_call 12
  refine (fewO_any a l.length cap l _ HR.out).mono ?_
  rintro e W2 ⟨b, rfl, hfew, hb⟩
  replace HK := Lib.hid (HK.out.next hb)
  replace HR := Lib.hid (HR.out.below hb)
  replace HS := Lib.hid (HS.out.below hb)
  clear hb
  cases b with
  | false =>
    clear hfew
    go_wp2_with fail
    go_at_call 11
    refine (first9_any _ HK.out.laid).mono ?_
    rintro e W3 ⟨rfl, hb⟩
    replace HK := Lib.hid (HK.out.next hb)
    replace HR := Lib.hid (HR.out.below hb)
    replace HS := Lib.hid (HS.out.below hb)
    clear hb
    go_wp2_with fail
    go_ret
    exact ⟨rfl, HK.out.below⟩
  | true =>
    have HF := Lib.hid (hfew rfl)
    have HP := Lib.hid (HR.out.few HF.out)
    have hn : l.length ≤ 1000 := Nat.le_trans HF.out.1 (by decide)
    clear hfew
    go_wp2_with fail
    go_at_call 22
    refine (fewSeen_any b sn.length capb sn _ HS.out).mono ?_
    rintro e W4 ⟨b, rfl, hfs, hb⟩
    replace HK := Lib.hid (HK.out.next hb)
    replace HR := Lib.hid (HR.out.below hb)
    replace HS := Lib.hid (HS.out.below hb)
    replace HP := Lib.hid (HP.out.below hb)
    clear hb
    cases b with
    | false =>
      clear hfs
      go_wp2_with fail
      go_at_call 11
      refine (first9_any _ HK.out.laid).mono ?_
      rintro e W5 ⟨rfl, hb⟩
      replace HK := Lib.hid (HK.out.next hb)
      replace HR := Lib.hid (HR.out.below hb)
      replace HS := Lib.hid (HS.out.below hb)
      replace HP := Lib.hid (HP.out.below hb)
      clear hb
      go_wp2_with fail
      go_ret
      exact ⟨rfl, HK.out.below⟩
    | true =>
      have hsn : sn.length ≤ 1000 := Nat.le_trans (hfs rfl) (by decide)
      clear hfs
      go_wp2_with fail
      go_at_call 13
      refine (copyOps_any a l.length cap l _ HP.out (by omega)).mono ?_
      rintro e W6 ⟨v, rfl, ho, hb⟩
      obtain ⟨ai, ci, rfl, hri⟩ := OwnO5.rd ho
      have HIN := Lib.hid (RdO.mk hri HP.out.ok)
      clear ho hri
      replace HK := Lib.hid (HK.out.next hb)
      replace HR := Lib.hid (HR.out.below hb)
      replace HS := Lib.hid (HS.out.below hb)
      replace HP := Lib.hid (HP.out.below hb)
      clear hb
      go_wp2_with fail
      go_at_call 23
      refine (copySeen_any b sn.length capb sn _ HS.out (by omega)).mono ?_
      rintro e W7 ⟨v, rfl, ho, hb⟩
      obtain ⟨bi, cbi, rfl, hri⟩ := OwnS.rd ho
      have HSI := Lib.hid (RdS.mk hri HS.out.ok)
      clear ho hri
      replace HK := Lib.hid (HK.out.next hb)
      replace HR := Lib.hid (HR.out.below hb)
      replace HS := Lib.hid (HS.out.below hb)
      replace HP := Lib.hid (HP.out.below hb)
      replace HIN := Lib.hid (HIN.out.below hb)
      clear hb
      go_wp2_with fail
      go_at_call 24
      refine (run_any ai l.length ci l bi sn.length cbi sn _ HIN.out HSI.out (by omega)).mono ?_
      rintro e W8 ⟨v, rfl, ho, hb⟩
      obtain ⟨aw, cw, rfl, hrw⟩ := Rd.of_own ho
      have HW1 : Hid (RdE wrCells 4 W8 aw (runW l sn).length cw (runW l sn)) := ⟨rfl, hrw⟩
      clear ho hrw
      replace HK := Lib.hid (HK.out.next hb)
      replace HR := Lib.hid (HR.out.below hb)
      replace HS := Lib.hid (HS.out.below hb)
      replace HP := Lib.hid (HP.out.below hb)
      replace HIN := Lib.hid (HIN.out.below hb)
      replace HSI := Lib.hid (HSI.out.below hb)
      clear hb
      go_wp2_with fail
      go_at_call 25
      refine (run9_any a l.length cap l b sn.length capb sn _ HP.out HS.out (by omega)).mono ?_
      rintro e W9 ⟨v, rfl, ho, hb⟩
      obtain ⟨aw2, cw2, rfl, hrw⟩ := Rd.of_own ho
      have HW2 : Hid (RdE wrCells 4 W9 aw2 (runW l sn).length cw2 (runW l sn)) := ⟨rfl, hrw⟩
      clear ho hrw
      replace HK := Lib.hid (HK.out.next hb)
      replace HR := Lib.hid (HR.out.below hb)
      replace HS := Lib.hid (HS.out.below hb)
      replace HP := Lib.hid (HP.out.below hb)
      replace HIN := Lib.hid (HIN.out.below hb)
      replace HSI := Lib.hid (HSI.out.below hb)
      replace HW1 := Lib.hid (HW1.out.below hb)
      clear hb
      generalize runE l sn = er
      go_wp2_with fail
      go_at_call 11
      refine (first9_any _ HK.out.laid).mono ?_
      rintro e W10 ⟨rfl, hb⟩
      replace HK := Lib.hid (HK.out.next hb)
      replace HR := Lib.hid (HR.out.below hb)
      replace HS := Lib.hid (HS.out.below hb)
      replace HP := Lib.hid (HP.out.below hb)
      replace HIN := Lib.hid (HIN.out.below hb)
      replace HSI := Lib.hid (HSI.out.below hb)
      replace HW1 := Lib.hid (HW1.out.below hb)
      replace HW2 := Lib.hid (HW2.out.below hb)
      clear hb
      go_wp2_with fail
      go_at_call 26
      refine (writes_same _ _ _ _ _ _ _ HW1.out HW2.out (by first | exact runW_len _ _ | simp)).mono ?_
      rintro e W11 ⟨rfl, hb⟩
      replace HK := Lib.hid (HK.out.next hb)
      replace HR := Lib.hid (HR.out.below hb)
      replace HS := Lib.hid (HS.out.below hb)
      replace HP := Lib.hid (HP.out.below hb)
      replace HIN := Lib.hid (HIN.out.below hb)
      replace HSI := Lib.hid (HSI.out.below hb)
      replace HW1 := Lib.hid (HW1.out.below hb)
      replace HW2 := Lib.hid (HW2.out.below hb)
      clear hb
      go_wp2_with fail
      go_at_call 21
      refine (ops_same _ _ _ _ _ _ _ HIN.out.rd HP.out.rd (by omega)).mono ?_
      rintro e W12 ⟨rfl, hb⟩
      replace HK := Lib.hid (HK.out.next hb)
      replace HR := Lib.hid (HR.out.below hb)
      replace HS := Lib.hid (HS.out.below hb)
      replace HP := Lib.hid (HP.out.below hb)
      replace HIN := Lib.hid (HIN.out.below hb)
      replace HSI := Lib.hid (HSI.out.below hb)
      replace HW1 := Lib.hid (HW1.out.below hb)
      replace HW2 := Lib.hid (HW2.out.below hb)
      clear hb
      go_wp2_with fail
      go_at_call 27
      refine (seen_same _ _ _ _ _ _ _ HSI.out.rd HS.out.rd (by omega)).mono ?_
      rintro e W13 ⟨rfl, hb⟩
      replace HK := Lib.hid (HK.out.next hb)
      replace HR := Lib.hid (HR.out.below hb)
      replace HS := Lib.hid (HS.out.below hb)
      replace HP := Lib.hid (HP.out.below hb)
      replace HIN := Lib.hid (HIN.out.below hb)
      replace HSI := Lib.hid (HSI.out.below hb)
      replace HW1 := Lib.hid (HW1.out.below hb)
      replace HW2 := Lib.hid (HW2.out.below hb)
      clear hb
      go_wp2_with fail
      go_ret
      exact ⟨rfl, HK.out.below⟩
end Go.Proofs.YtalpbphfmelhhaaGreatDoor
