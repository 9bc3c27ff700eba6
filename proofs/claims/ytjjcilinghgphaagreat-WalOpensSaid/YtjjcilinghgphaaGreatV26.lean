/-
 The document's name of a segment (raceref.Dec, raceref7.Name); the walk of WalNames.
-/
import Derived.Test.YtjjcilinghgphaaGreatV21
namespace Go.Proofs.YtjjcilinghgphaaGreat
open Go.RowKit Go.Maps Go.Sort
set_option maxRecDepth 100000
attribute [local go_sem] bs_size bs_toList
/-- The last digits. -/
def decD (n j : Nat) : List UInt8 := (dig8 n).drop (8 - j)
theorem decD_next (n j : Nat) (hj : j < 8) : decD n (j + 1) = dg n j :: decD n j := by
 match j, hj with
 | 0, _ => rfl
 | 1, _ => rfl
 | 2, _ => rfl
 | 3, _ => rfl
 | 4, _ => rfl
 | 5, _ => rfl
 | 6, _ => rfl
 | 7, _ => rfl
theorem decD_len (n j : Nat) (hj : j ≤ 8) : (decD n j).length = j := by
 unfold decD
 rw [List.length_drop, dig8_length]; omega
def DecPost (w : World) (n : Nat) (e : Ending) (w' : World) : Prop := ∃ j, 1 ≤ j ∧ j ≤ 8 ∧ n / 10 ^ j = 0 ∧ e = .returned (.string (bs (decD n j))) ∧ Below w.heap.size w w'
set_option maxHeartbeats 2000000 in
theorem dec_any (n : Nat) (h1 : 1 ≤ n) (h2 : n ≤ 99999999) (w : World) : Calls Tryz.prog 92 #[.int .i64 (n : Nat)] w (DecPost w n) := by
 have hne : ((n : Int) == 0) = false := by simp; omega
 have hlt0 : ¬ ((n : Int) < 0) := by omega
 go_enter Tryz.func92, Tryz.ntmps92
 go_wp2_with fail
 go_loopw [3, 4, 5] (fun sv k _ wr => ∃ j : Nat, j ≤ 8 ∧ sv = .string (bs (decD n j)) ∧ k = .int .i64 ((n / 10 ^ j : Nat) : Int) ∧ Hid (Below w.heap.size w wr)) (fun _ k _ _ => (intOf k).toNat)
 case atStart => exact ⟨0, by omega, rfl, by simp, Below.refl _ _⟩
 case round =>
  obtain ⟨j, hj, rfl, rfl, HB⟩ := hrel
  by_cases h0 : n / 10 ^ j = 0
  · have hj1 : 1 ≤ j := by
     rcases Nat.eq_zero_or_pos j with h | h
     · subst h; simp at h0; omega
     · exact h
    rw [h0]
    have HF : Hid (DecPost w n (.returned (.string (bs (decD n j)))) wr) := ⟨j, hj1, hj, h0, rfl, HB.out⟩
    clear h0
    go_wp2_with fail
    go_ret
    exact HF.out
  · have hj8 : j < 8 := by
     rcases Nat.lt_or_ge j 8 with h | h
     · exact h
     · exfalso
       have : j = 8 := by omega
       subst this
       exact h0 (Nat.div_eq_of_lt (by omega))
    have hdv : (((n / 10 ^ j : Nat) : Int) / 10) = ((n / 10 ^ (j + 1) : Nat) : Int) := by rw [Nat.pow_succ, ← Nat.div_div_eq_div_mul]; omega
    have hdg : 48 + ((n / 10 ^ j : Nat) : Int) % 10 = n8 (dg n j) := by unfold n8; rw [dg_nat]; omega
    obtain ⟨m, hm⟩ : ∃ m, n / 10 ^ j = m := ⟨_, rfl⟩
    have hmb : m ≤ 99999999 := by rw [← hm]; exact Nat.le_trans (Nat.div_le_self _ _) h2
    rw [hm] at hdv hdg h0 ⊢
    have hm0 : ((m : Int) == 0) = false := by simp; omega
    have hm1 : 1 ≤ m := by omega
    have hr0 : ¬ ((m : Int) % 10 < 0) := by omega
    have hw1 : IntKind.u8.wrap (48 + (m : Int) % 10) = 48 + (m : Int) % 10 := by simp [IntKind.wrap, IntKind.bits, IntKind.signed]; omega
    have h8 : Rd8 (wr.alloc (.cells #[.int .u8 (n8 (dg n j))] 5)) (some ⟨wr.heap.size, 0, none⟩) 1 1 [dg n j] := Rd8.lit wr [dg n j] 1 rfl (by decide) 5 (0, 0)
    have hcv : (convert 24 9 (.slice (some ⟨wr.heap.size, 0, none⟩) 1 1)).run Tryz.prog (wr.alloc (.cells #[.int .u8 (48 + (m : Int) % 10)] 5)) = .ok (.string (bs [dg n j])) (wr.alloc (.cells #[.int .u8 (48 + (m : Int) % 10)] 5)) := by
     rw [hdg]
     exact run_toStr (P := Tryz.prog) h8 24 5 9 Tryz.underlying24 Tryz.underlying5 Tryz.underlying9
    have hcat : ∀ W, (Op.stringOp .add (bs [dg n j]) (bs (decD n j))).run Tryz.prog W = .ok (.string (bs (decD n (j + 1)))) W := fun W => by
     rw [run_cat _ _ (by rw [decD_len n j (by omega)]; simp; omega) W, decD_next n j hj8]; rfl
    have HDV := Lib.hid hdv
    have HM := Lib.hid hm
    clear hdv hdg hm h8 h0
    go_wp2_with fail
    go_roundw
    case rel => exact ⟨j + 1, by omega, rfl, by rw [HDV.out], HB.out.alloc HB.out.size _⟩
    case measure => have := hm1; simp [intOf]; omega
def RNamePost (w : World) (l : List UInt8) (x : Int) (e : Ending) (w' : World) : Prop := e = .returned (.tuple #[.string (bs l), .int .i64 x]) ∧ Below w.heap.size w w'
set_option maxHeartbeats 2000000 in
theorem rname7_ok (dir : List UInt8) (n : Nat) (d1 : 1 ≤ dir.length) (d2 : dir.length ≤ 11) (h1 : 1 ≤ n) (h2 : n ≤ 99999999) (w : World) :
 Calls Tryz.prog 64 #[.string (bs dir), .int .i64 (n : Nat)] w (RNamePost w (segN dir n) 0) := by
 have hle : ¬ ((dir.length : Int) < 1) := by omega
 have hle2 : ¬ ((11 : Int) < (dir.length : Int)) := by omega
 have h5 : ¬ ((n : Int) < 1) := by omega
 have h6 : ¬ ((99999999 : Int) < (n : Int)) := by omega
 have hj1 : ∀ W, (Op.stringOp .add (bs dir) ⟨#[46]⟩).run Tryz.prog W = .ok (.string (bs (dir ++ [46]))) W := fun W => run_cat dir [46] (by simp; omega) W
 have hj2 : ∀ W, (Op.stringOp .add (bs (dir ++ [46])) (bs (decD n 8))).run Tryz.prog W = .ok (.string (bs (segN dir n))) W := fun W => by
  rw [run_cat _ _ (by rw [decD_len n 8 (by omega)]; simp; omega) W]; simp [segN, decD]
 have HJ1 := Lib.hid hj1
 have HJ2 := Lib.hid hj2
 obtain ⟨dl, hdl⟩ : ∃ dl, dir.length = dl := ⟨_, rfl⟩
 rw [hdl] at hle hle2
 have hle' : decide (dl < 1) = false := decide_eq_false (by omega)
 have h5' : decide (n < 1) = false := decide_eq_false (by omega)
 clear hj1 hj2
 go_enter Tryz.func64, Tryz.ntmps64
 go_wp2_with fail
 go_at_call 92
 refine (dec_any n h1 h2 w).mono ?_
 rintro e w1 ⟨j0, hj0, hj8, hz0, rfl, hb⟩
 have HB := Lib.hid hb
 clear hb
 go_wp2_with fail
 go_loop [6] (fun sv => ∃ j : Nat, j ≤ 8 ∧ n / 10 ^ j = 0 ∧ sv = .string (bs (decD n j))) (fun sv => match sv with | .string b => 8 - b.size | _ => 0)
 case atStart => exact ⟨j0, hj8, hz0, rfl⟩
 case round =>
  obtain ⟨j, hj, hz, rfl⟩ := hrel
  have hln := decD_len n j hj
  by_cases hlt : j < 8
  · have hdg : dg n j = 48 := by
     apply UInt8.toNat_inj.1
     rw [dg_nat, hz]; rfl
    have hnx := decD_next n j hlt
    rw [hdg] at hnx
    have hcat : ∀ W, (Op.stringOp .add ⟨#[48]⟩ (bs (decD n j))).run Tryz.prog W = .ok (.string (bs (decD n (j + 1)))) W := fun W => by
     have := run_cat (P := Tryz.prog) [48] (decD n j) (by rw [hln]; show 1 + j ≤ _; omega) W
     rw [hnx]
     exact this
    have hz2 : n / 10 ^ (j + 1) = 0 := by rw [Nat.pow_succ, ← Nat.div_div_eq_div_mul, hz]
    have HZ2 := Lib.hid hz2
    have hln2 := Lib.hid (decD_len n (j + 1) (by omega))
    have HLN := Lib.hid hln
    have hln' : ((decD n j).length : Int) < 8 := by omega
    have hd8 : decide (((decD n j).length : Int) < 8) = true := by simpa using hln'
    clear hdg hnx hz hz2 hln
    go_wp2_with fail
    go_round
    case rel => exact ⟨j + 1, by omega, HZ2.out, rfl⟩
    case measure => show 8 - (bs (decD n (j + 1))).size < 8 - (bs (decD n j)).size; rw [bs_size, bs_size, hln2.out, HLN.out]; omega
  · obtain rfl : j = 8 := by omega
    have hd8 : decide (((decD n 8).length : Int) < 8) = false := by rw [hln]; decide
    have hln' : ¬ ((decD n 8).length : Int) < 8 := by rw [hln]; decide
    have hj1 := HJ1.out
    have hj2 := HJ2.out
    clear hln
    go_wp2_with fail
    go_ret2
    exact ⟨rfl, HB.out⟩
theorem rname7_bad (dir : List UInt8) (n : Int) (h : dir.length < 1 ∨ 11 < dir.length) (hd : dir.length ≤ 9223372036854775807) (w : World) :
 Calls Tryz.prog 64 #[.string (bs dir), .int .i64 n] w (RNamePost w [] 10) := by
 obtain ⟨dl, hdl⟩ : ∃ dl, dir.length = dl := ⟨_, rfl⟩
 rw [hdl] at h
 rcases h with h | h
 · have h'' : (dl : Int) < 1 := by omega
   have h''' : decide (dl < 1) = true := decide_eq_true (by omega)
   go_enter Tryz.func64, Tryz.ntmps64
   go_wp2
   go_ret2
   exact ⟨rfl, Below.refl _ _⟩
 · have h2 : ¬ (dl : Int) < 1 := by omega
   have h''' : decide (dl < 1) = false := decide_eq_false (by omega)
   have h3 : (11 : Int) < (dl : Int) := by omega
   go_enter Tryz.func64, Tryz.ntmps64
   go_wp2
   go_ret2
   exact ⟨rfl, Below.refl _ _⟩
theorem rname7_range (dir : List UInt8) (n : Int) (d1 : 1 ≤ dir.length) (d2 : dir.length ≤ 11) (h : n < 1 ∨ 99999999 < n) (w : World) :
 Calls Tryz.prog 64 #[.string (bs dir), .int .i64 n] w (RNamePost w [] 1) := by
 obtain ⟨dl, hdl⟩ : ∃ dl, dir.length = dl := ⟨_, rfl⟩
 rw [hdl] at d1 d2
 have h2 : ¬ (dl : Int) < 1 := by omega
 have h''' : decide (dl < 1) = false := decide_eq_false (by omega)
 have h3 : ¬ (11 : Int) < (dl : Int) := by omega
 rcases h with h | h
 · go_enter Tryz.func64, Tryz.ntmps64
   go_wp2
   go_ret2
   exact ⟨rfl, Below.refl _ _⟩
 · have h4 : ¬ n < 1 := by omega
   go_enter Tryz.func64, Tryz.ntmps64
   go_wp2
   go_ret2
   exact ⟨rfl, Below.refl _ _⟩
/-- What both names answer. -/
theorem names_both (dir : List UInt8) (n : Int) (hd : dir.length ≤ 9223372036854775807) : ∃ (l : List UInt8) (x : Int), ∀ w, Calls Tryz.prog 47 #[.string (bs dir), .int .i64 n] w (RNamePost w l x) ∧ Calls Tryz.prog 64 #[.string (bs dir), .int .i64 n] w (RNamePost w l x) := by
 by_cases h1 : dir.length < 1 ∨ 11 < dir.length
 · exact ⟨[], 10, fun w => ⟨(walName_bad dir n h1 hd w).mono fun _ _ ⟨e1, e2⟩ => ⟨e1, by rw [← e2]; exact Below.refl _ _⟩, rname7_bad dir n h1 hd w⟩⟩
 · by_cases h2 : n < 1 ∨ 99999999 < n
   · exact ⟨[], 1, fun w => ⟨(walName_range dir n (by omega) (by omega) h2 w).mono fun _ _ ⟨e1, e2⟩ => ⟨e1, by rw [← e2]; exact Below.refl _ _⟩, rname7_range dir n (by omega) (by omega) h2 w⟩⟩
   · obtain ⟨N, rfl⟩ : ∃ N : Nat, n = (N : Int) := ⟨n.toNat, by omega⟩
     exact ⟨segN dir N, 0, fun w => ⟨walName_ok dir N (by omega) (by omega) (by omega) (by omega) w, rname7_ok dir N (by omega) (by omega) (by omega) (by omega) w⟩⟩
end Go.Proofs.YtjjcilinghgphaaGreat
