/-
  The walk of ProgRuns. Written by a program (lw9.py).
-/
import Derived.Test.YtalpbphfmelhhaaGreatDoorJE
namespace Go.Proofs.YtalpbphfmelhhaaGreatDoor
open Go.RowKit Go.Maps Go.Sort
set_option maxRecDepth 100000
attribute [local go_sem] bs_size bs_get bs_toList frombits tobits run_store_float
theorem runW_len (p : List OpP) (sn : List SnP) : (runW p sn).length ≤ 1000 := by
  by_cases h : runE p sn = 0
  · obtain ⟨_, h2, _⟩ := run_facts h
    have h3 := (check_parts (run_check h)).2.2.2
    rw [← h2, List.length_map] at h3
    omega
  · rw [runW_err h]; simp
theorem parseP_len (s : List UInt8) : (parseP s).2.length ≤ 1000 := by
  by_cases h : (parseP s).1 = 0
  · have := (check_parts (parseP_ok h)).1; omega
  · rw [parseP_err h]; simp
theorem Rd.lits (w : World) (cs : Array Value) (n m : Nat) (hm : cs.size = n * m) (hn : n ≤ maxLen) (e : TypeId) : Rd (w.alloc (.cells cs e)) (some ⟨w.heap.size, 0, none⟩) n n m cs.toList := by
  refine ⟨Nat.le_refl _, hn, (fun h => by cases h), by simp [hm], fun j u hj => ⟨w.heap.size, 0, rfl, ?_⟩⟩
  rw [Nat.zero_add, cell_of_row _ w.heap.size j cs e (0, 0) (heap_alloc_new w _)]
  simpa using hj
end Go.Proofs.YtalpbphfmelhhaaGreatDoor
