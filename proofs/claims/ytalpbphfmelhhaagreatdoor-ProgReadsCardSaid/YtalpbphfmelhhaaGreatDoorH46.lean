/-
  The walk of ProgRuns. Written by a program (lw9.py).
-/
import Derived.Test.YtalpbphfmelhhaaGreatDoorJE
namespace Go.Proofs.YtalpbphfmelhhaaGreatDoor
open Go.RowKit Go.Maps Go.Sort
set_option maxRecDepth 100000
attribute [local go_sem] bs_size bs_get bs_toList frombits tobits run_store_float
theorem runW_len (p : List OpP) (sn : List SnP) : (runW p sn).length ≤ 1000 := by
  by_cases h : runE p sn = 0
  · obtain ⟨_, h2, _⟩ := run_facts h
    have h3 := (check_parts (run_check h)).2.2.2
    rw [← h2, List.length_map] at h3
    omega
  · rw [runW_err h]; simp
end Go.Proofs.YtalpbphfmelhhaaGreatDoor
