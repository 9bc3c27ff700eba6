/-
 The names of segments: wal.file, wal.Name.
-/
import Derived.Test.YtjjcilinghgphaaGreatV1
import Derived.Test.YtjjcilinghgphaaGreatE14
import Derived.Test.YtjjcilinghgphaaGreatM0
import Derived.Laws.NewBlocks
import Derived.Lib.SlBytesConst
namespace Go.Proofs.YtjjcilinghgphaaGreat
open Go.RowKit Go.Maps
set_option maxRecDepth 100000
attribute [local go_sem] bs_size bs_toList

theorem run_cat {P : Program} (a b : List UInt8) (h : a.length + b.length ≤ 9223372036854775807) (w : World) : (Op.stringOp .add (bs a) (bs b)).run P w = .ok (.string (bs (a ++ b))) w := by
 rw [run_string_add_sum w _ _ (by rw [bs_size, bs_size]; exact h)]
 unfold bs; rw [ByteArray.mk_append_mk]
/-- The digits, k of them laid. -/
def fmtD (n k : Nat) : List UInt8 := List.replicate (8 - k) 48 ++ (dig8 n).drop (8 - k)
theorem fmtD_full (n : Nat) : fmtD n 8 = dig8 n := rfl
theorem fmtD_len (n k : Nat) (hk : k ≤ 8) : (fmtD n k).length = 8 := by
 unfold fmtD
 rw [List.length_append, List.length_replicate, List.length_drop, dig8_length]
 omega
theorem fmtD_next (n k : Nat) (hk : k < 8) : (fmtD n k).set (7 - k) (dg n k) = fmtD n (k + 1) ∧ (fmtD n k)[7 - k]? = some 48 := by
 match k, hk with
 | 0, _ => exact ⟨rfl, rfl⟩
 | 1, _ => exact ⟨rfl, rfl⟩
 | 2, _ => exact ⟨rfl, rfl⟩
 | 3, _ => exact ⟨rfl, rfl⟩
 | 4, _ => exact ⟨rfl, rfl⟩
 | 5, _ => exact ⟨rfl, rfl⟩
 | 6, _ => exact ⟨rfl, rfl⟩
 | 7, _ => exact ⟨rfl, rfl⟩
theorem B8_set (l : List UInt8) (j : Nat) (x : UInt8) : (B8 l).set j (.int .u8 (n8 x)) = B8 (l.set j x) := by
 unfold B8
 rw [List.map_set]
def NamePost (w : World) (l : List UInt8) (e : Ending) (w' : World) : Prop := e = .returned (.string (bs l)) ∧ Below w.heap.size w w'
def fmtW (w : World) (n k : Nat) : World := w.alloc (.cells (B8 (fmtD n k)).toArray 5 (8, 9))
theorem setCell_alloc_fr (w : World) (c : Array Value) (t : TypeId) (fr : Nat × Nat) (i : Nat) (v : Value) : (w.alloc (.cells c t fr)).setCell ⟨w.heap.size, i, none⟩ v = w.alloc (.cells (c.setIfInBounds i v) t fr) := by
 unfold World.setCell World.alloc
 congr 1
 apply Array.ext_getElem?
 intro k
 simp only [Array.getElem?_modify, Array.getElem?_push]
 by_cases hk : w.heap.size = k
 · subst hk; simp
 · rw [if_neg hk, if_neg (fun e => hk e.symm), if_neg (fun e => hk e.symm)]
theorem fmtW_cell (w : World) (n k j : Nat) : (fmtW w n k).cell? ⟨w.heap.size, j, none⟩ = (B8 (fmtD n k))[j]? := by
 unfold fmtW
 rw [cell_of_row _ _ j _ _ _ (heap_alloc_new w _)]
 simp
theorem fmtW_set (w : World) (n k : Nat) (hk : k < 8) : (fmtW w n k).setCell ⟨w.heap.size, 7 - k, none⟩ (.int .u8 (n8 (dg n k))) = fmtW w n (k + 1) := by
 unfold fmtW
 rw [setCell_alloc_fr, List.setIfInBounds_toArray, B8_set, (fmtD_next n k hk).1]
theorem fmtW_below (w : World) (n k : Nat) : Below w.heap.size w (fmtW w n k) := (Below.refl _ _).alloc (Nat.le_refl _) _
theorem fmtW_free (w : World) (n k j : Nat) (hj : j < 8) : (fmtW w n k).frozen? ⟨w.heap.size, j, none⟩ = false := by
 unfold fmtW World.frozen?
 show (match (w.alloc (.cells (B8 (fmtD n k)).toArray 5 (8, 9))).heap[w.heap.size]? with | some (.cells _ _ (lo, hi)) => decide (lo ≤ j) && decide (j < hi) | _ => false) = false
 rw [heap_alloc_new]
 simp; omega
set_option maxHeartbeats 1000000 in
theorem file_any (dir : List UInt8) (n : Nat) (hn : n ≤ 99999999) (hd : dir.length ≤ 1000000) (w : World) :
 Calls Tryz.prog 56 #[.string (bs dir), .int .i64 (n : Nat)] w (NamePost w (segN dir n)) := by
 have j1 : ∀ W, (Op.stringOp .add (bs dir) ⟨#[46]⟩).run Tryz.prog W = .ok (.string (bs (dir ++ [46]))) W := fun W => run_cat dir [46] (by simp; omega) W
 have j2 : ∀ W, (Op.stringOp .add (bs (dir ++ [46])) (bs (dig8 n))).run Tryz.prog W = .ok (.string (bs (segN dir n))) W := fun W => by rw [run_cat _ _ (by simp [dig8_length]; omega) W]; simp [segN]
 have HJ1 := Lib.hid j1
 have HJ2 := Lib.hid j2
 clear j1 j2
 have kc := fun (C : Array Value) (n c : Nat) => Lib.run_convert_bytes_const (P := Tryz.prog) w 24 5 C n c Tryz.underlying24 Tryz.underlying5
 go_enter Tryz.func56, Tryz.ntmps56
 go_wp2
 clear kc
 go_loopw [1, 6] (fun nv i wr => ∃ k : Nat, k ≤ 8 ∧ nv = .int .i64 ((n / 10 ^ k : Nat) : Int) ∧ i = .int .i64 (7 - (k : Int)) ∧ wr = fmtW w n k) (fun _ i _ => (intOf i + 1).toNat)
 case atStart => exact ⟨0, by omega, by simp, rfl, rfl⟩
 case round =>
  obtain ⟨k, hk, rfl, rfl, rfl⟩ := hrel
  by_cases hlt : k < 8
  · have hcell := fmtW_cell w n k (7 - k)
    have hget : (B8 (fmtD n k))[7 - k]? = some (.int .u8 48) := by unfold B8; rw [List.getElem?_map, (fmtD_next n k hlt).2]; rfl
    rw [hget] at hcell
    have hfr := fmtW_free w n k (7 - k) (by omega)
    have hset := fmtW_set w n k hlt
    have hdv : (((n / 10 ^ k : Nat) : Int) / 10) = ((n / 10 ^ (k + 1) : Nat) : Int) := by rw [Nat.pow_succ, ← Nat.div_div_eq_div_mul]; omega
    have hdg : 48 + ((n / 10 ^ k : Nat) : Int) % 10 = n8 (dg n k) := by unfold n8; rw [dg_nat]; omega
    obtain ⟨m, hm⟩ : ∃ m, n / 10 ^ k = m := ⟨_, rfl⟩
    have hmb : m ≤ 99999999 := by rw [← hm]; exact Nat.le_trans (Nat.div_le_self _ _) hn
    rw [hm] at hdv hdg ⊢
    obtain ⟨j, hj⟩ : ∃ j, 7 - k = j := ⟨_, rfl⟩
    rw [show (7 - (k : Int)) = (j : Int) by omega]
    rw [hj] at hcell hfr hset
    have hj7 : j ≤ 7 := by omega
    have hw1 : IntKind.u8.wrap ((m : Int) % 10) = (m : Int) % 10 := by simp [IntKind.wrap, IntKind.bits, IntKind.signed]; omega
    have hw2 : IntKind.u8.wrap (48 + (m : Int) % 10) = 48 + (m : Int) % 10 := by simp [IntKind.wrap, IntKind.bits, IntKind.signed]; omega
    have HDV := Lib.hid hdv
    have HDG := Lib.hid hdg
    have HSET := Lib.hid hset
    have HJ := Lib.hid hj
    clear hdv hdg hset hm hget hj
    go_wp2
    go_roundw
    case rel => exact ⟨k + 1, by omega, by rw [HDV.out], by have := HJ.out; congr 1; omega, by rw [HDG.out]; exact HSET.out⟩
    case measure => simp [intOf]
  · obtain rfl : k = 8 := by omega
    have h8 : Rd8 (fmtW w n 8) (some ⟨w.heap.size, 0, none⟩) 8 8 (dig8 n) := Rd8.lit w (dig8 n) 8 rfl (by decide) 5 (8, 9)
    have hcv := run_toStr (P := Tryz.prog) h8 24 5 9 Tryz.underlying24 Tryz.underlying5 Tryz.underlying9
    have j1 := HJ1.out
    have j2 := HJ2.out
    go_wp2
    go_ret
    exact ⟨rfl, fmtW_below w n 8⟩
theorem walName_bad (dir : List UInt8) (n : Int) (h : dir.length < 1 ∨ 11 < dir.length) (hd : dir.length ≤ 9223372036854775807) (w : World) :
 Calls Tryz.prog 47 #[.string (bs dir), .int .i64 n] w fun e w' => e = .returned (.tuple #[.string (bs []), .int .i64 10]) ∧ w = w' := by
 rcases h with h | h
 · have h0 : dir = [] := List.eq_nil_of_length_eq_zero (by omega)
   subst h0
   go_enter Tryz.func47, Tryz.ntmps47
   go_wp2
   go_ret2
   exact ⟨rfl, rfl⟩
 · have hne : dir.isEmpty = false := by cases dir with | nil => simp at h | cons _ _ => rfl
   have hlt : ((11 : Int) < (dir.length : Int)) := by omega
   go_enter Tryz.func47, Tryz.ntmps47
   go_wp2
   go_ret2
   exact ⟨rfl, rfl⟩
theorem walName_range (dir : List UInt8) (n : Int) (h1 : 1 ≤ dir.length) (h2 : dir.length ≤ 11) (h : n < 1 ∨ 99999999 < n) (w : World) :
 Calls Tryz.prog 47 #[.string (bs dir), .int .i64 n] w fun e w' => e = .returned (.tuple #[.string (bs []), .int .i64 1]) ∧ w = w' := by
 have hne : dir.isEmpty = false := by cases dir with | nil => simp at h1 | cons _ _ => rfl
 have hle : ¬ ((11 : Int) < (dir.length : Int)) := by omega
 rcases h with h | h
 · go_enter Tryz.func47, Tryz.ntmps47
   go_wp2
   go_ret2
   exact ⟨rfl, rfl⟩
 · have h' : ¬ n < 1 := by omega
   go_enter Tryz.func47, Tryz.ntmps47
   go_wp2
   go_ret2
   exact ⟨rfl, rfl⟩
theorem walName_ok (dir : List UInt8) (n : Nat) (h1 : 1 ≤ dir.length) (h2 : dir.length ≤ 11) (h3 : 1 ≤ n) (h4 : n ≤ 99999999) (w : World) :
 Calls Tryz.prog 47 #[.string (bs dir), .int .i64 (n : Nat)] w fun e w' => e = .returned (.tuple #[.string (bs (segN dir n)), .int .i64 0]) ∧ Below w.heap.size w w' := by
 have hne : dir.isEmpty = false := by cases dir with | nil => simp at h1 | cons _ _ => rfl
 have hle : ¬ ((11 : Int) < (dir.length : Int)) := by omega
 have h5 : ¬ ((n : Int) < 1) := by omega
 have h6 : ¬ ((99999999 : Int) < (n : Int)) := by omega
 go_enter Tryz.func47, Tryz.ntmps47
 go_wp2_with fail
 go_at_call 56
 refine (file_any dir n h4 (by omega) _).mono ?_
 rintro e w' ⟨rfl, hb⟩
 go_wp2_with fail
 go_ret2
 exact ⟨rfl, hb⟩
end Go.Proofs.YtjjcilinghgphaaGreat
