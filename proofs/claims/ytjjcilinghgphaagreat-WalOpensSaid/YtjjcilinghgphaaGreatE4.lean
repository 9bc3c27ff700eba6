/-
 The walks of the disk of chapter 6: names, what is there, writes.
-/
import Derived.Test.YtjjcilinghgphaaGreatEA
namespace Go.Proofs.YtjjcilinghgphaaGreat
open Go.RowKit Go.Maps
set_option maxRecDepth 100000
attribute [local go_sem] bs_size

set_option maxHeartbeats 1000000 in
theorem name_any (n : List UInt8) (w : World) (hn : n.length ≤ 9223372036854775807) : Calls Tryz.prog 22 #[.string (bs n)] w fun e w' => e = .returned (.bool (nameOk n)) ∧ w = w' := by
 unfold nameOk
 by_cases h1 : 1 ≤ n.length
 · have d1 : decide ((1 : Int) ≤ n.length) = true := by simp; omega
   by_cases h2 : n.length ≤ 20
   · have d2 : decide ((n.length : Int) ≤ 20) = true := by simp; omega
     rw [decide_eq_true h1, decide_eq_true h2]
     go_enter Tryz.func22, Tryz.ntmps22
     go_wp2
     go_ret
     exact ⟨rfl, rfl⟩
   · have d2 : decide ((n.length : Int) ≤ 20) = false := by simp; omega
     rw [decide_eq_true h1, decide_eq_false h2]
     go_enter Tryz.func22, Tryz.ntmps22
     go_wp2
     go_ret
     exact ⟨rfl, rfl⟩
 · have d1 : decide ((1 : Int) ≤ n.length) = false := by simp; omega
   rw [decide_eq_false h1, Bool.false_and]
   go_enter Tryz.func22, Tryz.ntmps22
   go_wp2
   go_ret
   exact ⟨rfl, rfl⟩

/-- ErrNone of a file that is not there. -/
def noneE (o : Option Cel) : Int := match o with
 | none => 8
 | some _ => 0
set_option maxHeartbeats 1000000 in
theorem has_any (d m k : Nat) (L : List Cel) (n : List UInt8) (hn : n.length ≤ 9223372036854775807) (w : World) (c0 : w.cell? ⟨d, 0, none⟩ = some (.map (some m))) (hm : w.ownsMap Tryz.prog 9 ptrE m k (mapOf L)) :
 Calls Tryz.prog 87 #[.pointer (some ⟨d, 0, none⟩), .string (bs n)] w fun e w' => e = .returned (.int .i64 (noneE (getC n L))) ∧ w = w' := by
 have hl := look_run hm n hn
 cases hg : getC n L with
 | none =>
  rw [hg] at hl
  clear hg hm
  simp only [Option.map_none] at hl
  go_enter Tryz.func87, Tryz.ntmps87
  go_wp2
  go_ret
  exact ⟨rfl, rfl⟩
 | some c =>
  rw [hg] at hl
  clear hg hm
  simp only [Option.map_some] at hl
  go_enter Tryz.func87, Tryz.ntmps87
  go_wp2
  go_ret
  exact ⟨rfl, rfl⟩

/-- A write that comes to no deed: the disk is down, or it has an error of its own. -/
theorem write_err (d : Nat) (dn : Bool) (e : Int) (fv : Value) (w : World) (c4 : w.cell? ⟨d, 4, none⟩ = some (.bool dn)) (h : dn = true ∨ e ≠ 0) :
 Calls Tryz.prog 73 #[.pointer (some ⟨d, 0, none⟩), .int .i64 e, fv] w fun x w' => x = .returned (.int .i64 (if dn then 12 else e)) ∧ w = w' := by
 cases dn with
 | true =>
  clear h
  go_enter Tryz.func73, Tryz.ntmps73
  go_wp2
  go_ret
  exact ⟨rfl, rfl⟩
 | false =>
  have h1 : (e != 0) = true := by
   rcases h with h | h
   · cases h
   · simpa using h
  clear h
  go_enter Tryz.func73, Tryz.ntmps73
  go_wp2
  go_ret
  exact ⟨rfl, rfl⟩
/-- A write that is the last one of this life. -/
theorem write_last (d m : Nat) (sz wr : Int) (fv : Value) (w : World) (hd : w.heap[d]? = some (.cells #[.map (some m), .int .i64 sz, .int .i64 wr, .int .i64 1, .bool false] 66 (0, 0)))
 (h2 : 0 ≤ wr) (h3 : wr < 1000000000000) :
 Calls Tryz.prog 73 #[.pointer (some ⟨d, 0, none⟩), .int .i64 0, fv] w (fun x w' => x = .returned (.int .i64 12) ∧ Fr (fun k => k = d) w w' ∧ w'.heap[d]? = some (.cells #[.map (some m), .int .i64 sz, .int .i64 wr, .int .i64 0, .bool true] 66 (0, 0))) := by
 have hl := last_any d m sz wr 1 w hd (by omega) (by omega) h2 h3
 have HL := Lib.hid hl
 obtain ⟨⟨c0, c1, c2, c3, c4⟩, f1, f2, f3, f4⟩ := dcells hd
 clear hd hl
 go_enter Tryz.func73, Tryz.ntmps73
 go_wp2_with (go_at_call 86; ((with_reducible refine (HL.out).mono ?_); rintro e w' ⟨rfl, hf, hh⟩; have HF := Lib.hid hf; have HH := Lib.hid hh; clear hf hh))
 go_ret
 exact ⟨rfl, HF.out, HH.out⟩
set_option maxHeartbeats 1000000 in
/-- A write that is done. -/
theorem write_do_create (d m : Nat) (sz wr ar : Int) (cv : Array Value) (w : World) (hd : w.heap[d]? = some (.cells #[.map (some m), .int .i64 sz, .int .i64 wr, .int .i64 ar, .bool false] 66 (0, 0)))
 (h0 : 0 ≤ ar) (h1 : ar ≤ 9223372036854775807) (hne : ar ≠ 1) (h2 : 0 ≤ wr) (h3 : wr < 1000000000000) (R : World → Prop)
 (hdo : ∀ W, Fr (fun k => k = d) w W → W.heap[d]? = some (.cells #[.map (some m), .int .i64 sz, .int .i64 (wr + 1), .int .i64 (if 0 < ar then ar - 1 else ar), .bool false] 66 (0, 0)) → Calls Tryz.prog 74 cv W fun x w' => x = .returned (.tuple #[]) ∧ R w') :
 Calls Tryz.prog 73 #[.pointer (some ⟨d, 0, none⟩), .int .i64 0, .func (.func 74) #[] cv] w (fun x w' => x = .returned (.int .i64 0) ∧ R w') := by
 have hl := last_any d m sz wr ar w hd h0 h1 h2 h3
 rw [if_neg hne, decide_eq_false hne] at hl
 have HL := Lib.hid hl
 have HDO := Lib.hid hdo
 obtain ⟨⟨c0, c1, c2, c3, c4⟩, f1, f2, f3, f4⟩ := dcells hd
 clear hd hl hdo
 go_enter Tryz.func73, Tryz.ntmps73
 go_wp2_with (first | (go_at_call 86; ((with_reducible refine (HL.out).mono ?_); rintro e w' ⟨rfl, hf, hh⟩; have HF := Lib.hid hf; have HH := Lib.hid hh; clear hf hh)) | (go_at_call 74; ((with_reducible refine (HDO.out _ HF.out HH.out).mono ?_); rintro e w' ⟨rfl, hr⟩; have HR := Lib.hid hr; clear hr)))
 go_ret
 exact ⟨rfl, HR.out⟩
set_option maxHeartbeats 1000000 in
/-- A write that is done. -/
theorem write_do_sync (d m : Nat) (sz wr ar : Int) (cv : Array Value) (w : World) (hd : w.heap[d]? = some (.cells #[.map (some m), .int .i64 sz, .int .i64 wr, .int .i64 ar, .bool false] 66 (0, 0)))
 (h0 : 0 ≤ ar) (h1 : ar ≤ 9223372036854775807) (hne : ar ≠ 1) (h2 : 0 ≤ wr) (h3 : wr < 1000000000000) (R : World → Prop)
 (hdo : ∀ W, Fr (fun k => k = d) w W → W.heap[d]? = some (.cells #[.map (some m), .int .i64 sz, .int .i64 (wr + 1), .int .i64 (if 0 < ar then ar - 1 else ar), .bool false] 66 (0, 0)) → Calls Tryz.prog 88 cv W fun x w' => x = .returned (.tuple #[]) ∧ R w') :
 Calls Tryz.prog 73 #[.pointer (some ⟨d, 0, none⟩), .int .i64 0, .func (.func 88) #[] cv] w (fun x w' => x = .returned (.int .i64 0) ∧ R w') := by
 have hl := last_any d m sz wr ar w hd h0 h1 h2 h3
 rw [if_neg hne, decide_eq_false hne] at hl
 have HL := Lib.hid hl
 have HDO := Lib.hid hdo
 obtain ⟨⟨c0, c1, c2, c3, c4⟩, f1, f2, f3, f4⟩ := dcells hd
 clear hd hl hdo
 go_enter Tryz.func73, Tryz.ntmps73
 go_wp2_with (first | (go_at_call 86; ((with_reducible refine (HL.out).mono ?_); rintro e w' ⟨rfl, hf, hh⟩; have HF := Lib.hid hf; have HH := Lib.hid hh; clear hf hh)) | (go_at_call 88; ((with_reducible refine (HDO.out _ HF.out HH.out).mono ?_); rintro e w' ⟨rfl, hr⟩; have HR := Lib.hid hr; clear hr)))
 go_ret
 exact ⟨rfl, HR.out⟩
set_option maxHeartbeats 1000000 in
/-- A write that is done. -/
theorem write_do_cut (d m : Nat) (sz wr ar : Int) (cv : Array Value) (w : World) (hd : w.heap[d]? = some (.cells #[.map (some m), .int .i64 sz, .int .i64 wr, .int .i64 ar, .bool false] 66 (0, 0)))
 (h0 : 0 ≤ ar) (h1 : ar ≤ 9223372036854775807) (hne : ar ≠ 1) (h2 : 0 ≤ wr) (h3 : wr < 1000000000000) (R : World → Prop)
 (hdo : ∀ W, Fr (fun k => k = d) w W → W.heap[d]? = some (.cells #[.map (some m), .int .i64 sz, .int .i64 (wr + 1), .int .i64 (if 0 < ar then ar - 1 else ar), .bool false] 66 (0, 0)) → Calls Tryz.prog 99 cv W fun x w' => x = .returned (.tuple #[]) ∧ R w') :
 Calls Tryz.prog 73 #[.pointer (some ⟨d, 0, none⟩), .int .i64 0, .func (.func 99) #[] cv] w (fun x w' => x = .returned (.int .i64 0) ∧ R w') := by
 have hl := last_any d m sz wr ar w hd h0 h1 h2 h3
 rw [if_neg hne, decide_eq_false hne] at hl
 have HL := Lib.hid hl
 have HDO := Lib.hid hdo
 obtain ⟨⟨c0, c1, c2, c3, c4⟩, f1, f2, f3, f4⟩ := dcells hd
 clear hd hl hdo
 go_enter Tryz.func73, Tryz.ntmps73
 go_wp2_with (first | (go_at_call 86; ((with_reducible refine (HL.out).mono ?_); rintro e w' ⟨rfl, hf, hh⟩; have HF := Lib.hid hf; have HH := Lib.hid hh; clear hf hh)) | (go_at_call 99; ((with_reducible refine (HDO.out _ HF.out HH.out).mono ?_); rintro e w' ⟨rfl, hr⟩; have HR := Lib.hid hr; clear hr)))
 go_ret
 exact ⟨rfl, HR.out⟩
set_option maxHeartbeats 1000000 in
/-- A write that is done. -/
theorem write_do_remove (d m : Nat) (sz wr ar : Int) (cv : Array Value) (w : World) (hd : w.heap[d]? = some (.cells #[.map (some m), .int .i64 sz, .int .i64 wr, .int .i64 ar, .bool false] 66 (0, 0)))
 (h0 : 0 ≤ ar) (h1 : ar ≤ 9223372036854775807) (hne : ar ≠ 1) (h2 : 0 ≤ wr) (h3 : wr < 1000000000000) (R : World → Prop)
 (hdo : ∀ W, Fr (fun k => k = d) w W → W.heap[d]? = some (.cells #[.map (some m), .int .i64 sz, .int .i64 (wr + 1), .int .i64 (if 0 < ar then ar - 1 else ar), .bool false] 66 (0, 0)) → Calls Tryz.prog 95 cv W fun x w' => x = .returned (.tuple #[]) ∧ R w') :
 Calls Tryz.prog 73 #[.pointer (some ⟨d, 0, none⟩), .int .i64 0, .func (.func 95) #[] cv] w (fun x w' => x = .returned (.int .i64 0) ∧ R w') := by
 have hl := last_any d m sz wr ar w hd h0 h1 h2 h3
 rw [if_neg hne, decide_eq_false hne] at hl
 have HL := Lib.hid hl
 have HDO := Lib.hid hdo
 obtain ⟨⟨c0, c1, c2, c3, c4⟩, f1, f2, f3, f4⟩ := dcells hd
 clear hd hl hdo
 go_enter Tryz.func73, Tryz.ntmps73
 go_wp2_with (first | (go_at_call 86; ((with_reducible refine (HL.out).mono ?_); rintro e w' ⟨rfl, hf, hh⟩; have HF := Lib.hid hf; have HH := Lib.hid hh; clear hf hh)) | (go_at_call 95; ((with_reducible refine (HDO.out _ HF.out HH.out).mono ?_); rintro e w' ⟨rfl, hr⟩; have HR := Lib.hid hr; clear hr)))
 go_ret
 exact ⟨rfl, HR.out⟩
end Go.Proofs.YtjjcilinghgphaaGreat
