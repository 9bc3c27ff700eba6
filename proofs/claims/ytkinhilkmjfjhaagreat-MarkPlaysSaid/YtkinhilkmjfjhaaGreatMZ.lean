/-
  The reference's writing of numbers (X6 turned).
  The reader: fail, stop (X8 turned).
  The reader's number (X9 turned).
  The reader's count, fault, end, new (X10, X11, X12 turned).
-/
import Derived.Test.YtkinhilkmjfjhaaGreatM1
import Derived.Lib.Zigzag
/-! ### The reference's writing of numbers (X6 turned). -/
namespace Go.Proofs.YtkinhilkmjfjhaaGreat
set_option maxRecDepth 100000
open Go.RowKit
attribute [local go_sem] bs_size bs_get bs_toList
theorem n64_shr7 (x : UInt64) : n64 x / (128 : Int) = n64 (x >>> 7) := by
  unfold n64; rw [UInt64.toNat_shiftRight, show (7 : UInt64).toNat % 64 = 7 from rfl, Nat.shiftRight_eq_div_pow]; omega
theorem n64_shr8 (x : UInt64) : n64 x / (256 : Int) = n64 (x >>> 8) := by
  unfold n64; rw [UInt64.toNat_shiftRight, show (8 : UInt64).toNat % 64 = 8 from rfl, Nat.shiftRight_eq_div_pow]; omega
theorem n64_lo8 (x : UInt64) : n64 x % (256 : Int) = n8 x.toUInt8 := by
  unfold n64 n8; rw [UInt64.toNat_toUInt8]; omega
theorem n64_lo7 (x : UInt64) : n64 x % (128 : Int) + 128 = n8 (x.toUInt8 ||| 128) := by
  unfold n64 n8
  rw [UInt8.toNat_or, UInt64.toNat_toUInt8, show (128 : UInt8).toNat = 2 ^ 7 * 1 from rfl, show (2 : Nat) ^ 8 = 256 from rfl]
  have e : ∀ a : Fin 256, a.val % 128 + 128 = a.val ||| 2 ^ 7 * 1 := by decide +kernel
  have := e ⟨x.toNat % 256, by omega⟩
  simp only at this
  omega
theorem wr8_in (n : Int) (h0 : 0 ≤ n) (h1 : n ≤ 255) : IntKind.u8.wrap n = n := wrap8 n h0 h1
set_option maxHeartbeats 2000000 in
theorem rInt_core (n : Int) (U X : UInt64) (hX : IntKind.u64.wrap n = n64 X) (hU : U = if n < 0 then ~~~(X <<< 1) else X <<< 1) (w : World) :
    Calls Tryz.prog 89 #[.int .i64 n] w fun e w' => ∃ v, e = .returned v ∧ Own8 w' w.heap.size 5 v (encU U.toNat) ∧ Below w.heap.size w w' := by
  have hs1 : Op.shift .shl .u64 (n64 X) .u64 1 = pure (.int .u64 (n64 (X <<< 1))) := sh64_shl X .u64 1 (by decide) (by decide)
  have hs2 := un64_not (X <<< 1)
  have HE : Hid ((encU U.toNat).length ≤ 10) := encU_len64 _ U.toNat_lt
  by_cases hn : n < 0
  case' pos => rw [if_pos hn] at hU
  case' neg => rw [if_neg hn] at hU
  all_goals
    simp only [← hU] at hs2 hs1
    clear hU
    go_enter Tryz.func89, Tryz.ntmps89
    go_wp2_with fail
    go_loopw [3, 4] (fun u o wr => ∃ (x : UInt64) (cur : List UInt8), u = .int .u64 (n64 x) ∧ Own8 wr w.heap.size 5 o cur ∧ Hid (cur ++ encU x.toNat = encU U.toNat) ∧ cur.length ≤ 10 ∧ Below w.heap.size w wr) (fun u _ _ => (intOf u).toNat)
    case atStart => exact ⟨U, [], rfl, Own8.nil _ _ _, rfl, by simp, Below.refl _ _⟩
    case round =>
      obtain ⟨x, cur, rfl, hown, HQ, hcl, hbel⟩ := hrel
      have hbl := hbel.size
      by_cases hx : x.toNat < 128
      · have hd : decide (128 ≤ n64 x) = false := decide_eq_false (by unfold n64; omega)
        have q1 := n64_to8 x
        have HQ2 : Hid (cur ++ [x.toUInt8] = encU U.toNat) := by rw [← HQ.out, enc_lo hx]; exact rfl
        clear hx
        go_wp2_with (at_builtin; refine wpList_app S8 rfl (.tmp 23) (.tmp 26) rfl w.heap.size rfl (hown.alloc _) rfl (Rd.one _ _ _) (by simp [Value.oneCell']) (by omega) (by simp [maxLen]; omega) (by simp; omega) ?_)
        intro v2 w2 hown' hb2 _
        have HO : Hid (Own8 w2 w.heap.size 5 v2 (encU U.toNat)) := by rw [← HQ2.out]; exact Own8.mk hown' (by rw [List.length_append]; rfl) (by rw [B8_append]; rfl)
        clear hown hown'
        go_wp2
        go_ret
        exact ⟨_, rfl, HO.out, (hbel.alloc hbl _).trans hb2⟩
      · have hd : decide (128 ≤ n64 x) = true := decide_eq_true (by unfold n64; omega)
        have hnn := n64_nn x
        have hnl := n64_le x
        have r1 : IntKind.u8.wrap (n64 x % 128) = n64 x % 128 := wr8_in _ (by omega) (by omega)
        have r2 : IntKind.u8.wrap (n64 x % 128 + 128) = n8 (x.toUInt8 ||| 128) := by rw [wr8_in _ (by omega) (by omega)]; exact n64_lo7 x
        have r3 := n64_lo7 x
        have r4 := n64_shr7 x
        have HQ2 : Hid ((cur ++ [x.toUInt8 ||| 128]) ++ encU (x >>> 7).toNat = encU U.toNat) := by rw [← HQ.out, enc_hi hx, List.append_assoc]; exact rfl
        have hlen : cur.length + 1 ≤ 10 := by have h1 := congrArg List.length HQ2.out; have h2 := HE.out; simp only [List.length_append, List.length_cons, List.length_nil] at h1; omega
        have HM : Hid ((n64 (x >>> 7)).toNat < (n64 x).toNat) := by
          have : (x >>> 7).toNat = x.toNat / 128 := by rw [UInt64.toNat_shiftRight, show (7 : UInt64).toNat % 64 = 7 from rfl, Nat.shiftRight_eq_div_pow]
          show (n64 (x >>> 7)).toNat < (n64 x).toNat
          unfold n64; omega
        clear hx
        go_wp2_with (at_builtin; refine wpList_app S8 rfl (.tmp 14) (.tmp 19) rfl w.heap.size rfl (hown.alloc _) rfl (Rd.one _ _ _) (by simp [Value.oneCell']) (by omega) (by simp [maxLen]; omega) (by simp; omega) ?_)
        intro v2 w2 hown' hb2 _
        have HO : Hid (Own8 w2 w.heap.size 5 v2 (cur ++ [x.toUInt8 ||| 128])) := Own8.mk hown' (by rw [List.length_append]; rfl) (by rw [B8_append]; rfl)
        clear hown hown'
        go_wp2
        go_roundw
        case rel => exact ⟨x >>> 7, _, by first | rfl | rw [r4], HO.out, HQ2, by rw [List.length_append]; simp; omega, (hbel.alloc hbl _).trans hb2⟩
        case measure => simp only [intOf]; first | exact HM.out | (rw [r4]; exact HM.out)
theorem rInt_any (n : Int) (h0 : -9223372036854775808 ≤ n) (h1 : n ≤ 9223372036854775807) (w : World) :
    Calls Tryz.prog 89 #[.int .i64 n] w fun e w' => ∃ v, e = .returned v ∧ Own8 w' w.heap.size 5 v (intB n) ∧ Below w.heap.size w w' := by
  obtain ⟨X, hX, hz⟩ := wInt_u h0 h1
  have := rInt_core n _ X hX rfl w
  rw [hz] at this; exact this
end Go.Proofs.YtkinhilkmjfjhaaGreat

/-! ### The reader: fail, stop (X8 turned). -/
namespace Go.Proofs.YtkinhilkmjfjhaaGreat
set_option maxRecDepth 100000
open Go.RowKit
attribute [local go_sem] bs_size bs_get bs_toList
/-- A reader at p over l, with its place, its fault, the fault's place. -/
def Rr (w : World) (p : Nat) (a : Option Addr) (cap : Nat) (l : List UInt8) (i f q : Int) : Prop :=
  w.cell? ⟨p, 0, none⟩ = some (.slice a l.length cap) ∧ w.cell? ⟨p, 1, none⟩ = some (.int .i64 i) ∧ w.cell? ⟨p, 2, none⟩ = some (.int .i64 f) ∧ w.cell? ⟨p, 3, none⟩ = some (.int .i64 q) ∧
  w.frozen? ⟨p, 1, none⟩ = false ∧ w.frozen? ⟨p, 2, none⟩ = false ∧ w.frozen? ⟨p, 3, none⟩ = false ∧ Rd8 w a l.length cap l ∧ blk a ≠ some p
def IsP (p k : Nat) : Prop := k = p
theorem frP {p : Nat} {w w1 : World} (h : Fr (IsP p) w w1) (o : Nat) (v : Value) : Fr (IsP p) w (w1.setCell ⟨p, o, none⟩ v) := h.setCell (p := ⟨p, o, none⟩) (fun _ => (rfl : p = p)) v
/-- What a reading does. -/
def RDone (w : World) (p : Nat) (a : Option Addr) (cap : Nat) (l : List UInt8) (i f q : Int) (w' : World) : Prop := Rr w' p a cap l i f q ∧ Fr (IsP p) w w'
theorem Rr.keep {S : Nat → Prop} {w w' : World} {p : Nat} {a : Option Addr} {cap : Nat} {l : List UInt8} {i f q : Int} (h : Rr w p a cap l i f q) (hf : Fr S w w') (hp : ¬ S p) (ha : ∀ b, blk a = some b → ¬ S b) : Rr w' p a cap l i f q := by
  obtain ⟨h0, h1, h2, h3, f1, f2, f3, hr, hn⟩ := h
  have hl : p < w.heap.size := World.block_lt_of_cell? w _ h0
  have kc : ∀ o, w'.cell? ⟨p, o, none⟩ = w.cell? ⟨p, o, none⟩ := fun o => hf.cell (p := ⟨p, o, none⟩) hl hp
  have kf : ∀ o, w'.frozen? ⟨p, o, none⟩ = w.frozen? ⟨p, o, none⟩ := fun o => hf.frozen (p := ⟨p, o, none⟩) hl hp
  exact ⟨(kc 0).trans h0, (kc 1).trans h1, (kc 2).trans h2, (kc 3).trans h3, (kf 1).trans f1, (kf 2).trans f2, (kf 3).trans f3, hr.keep hf ha, hn⟩
theorem Rr.below {w w' : World} {p : Nat} {a : Option Addr} {cap : Nat} {l : List UInt8} {i f q : Int} (h : Rr w p a cap l i f q) (hb : Below w.heap.size w w') : Rr w' p a cap l i f q :=
  h.keep (S := fun _ => False) (Fr.of_new hb) (fun h => h) (fun _ _ h => h)
theorem rd_setP {w : World} {p : Nat} {a : Option Addr} {n cap : Nat} {l : List UInt8} (h : Rd8 w a n cap l) (hn : blk a ≠ some p) (o : Nat) (v : Value) : Rd8 (w.setCell ⟨p, o, none⟩ v) a n cap l :=
  h.keep (S := IsP p) (frP (Fr.refl _ _) _ _) (fun b hb e => hn (by rw [hb]; exact congrArg some e))
theorem cell_o {w : World} {p o o' : Nat} {v u : Value} (h : w.cell? ⟨p, o', none⟩ = some u) (hne : o ≠ o') : (w.setCell ⟨p, o, none⟩ v).cell? ⟨p, o', none⟩ = some u :=
  (World.cell?_setCell_other _ _ _ _ (by intro e; exact hne (by injection e))).trans h
theorem Rr.setAt {w : World} {p : Nat} {a : Option Addr} {cap : Nat} {l : List UInt8} {i f q : Int} (h : Rr w p a cap l i f q) (j : Int) : Rr (w.setCell ⟨p, 1, none⟩ (.int .i64 j)) p a cap l j f q := by
  obtain ⟨h0, h1, h2, h3, f1, f2, f3, hr, hn⟩ := h
  exact ⟨cell_o h0 (by decide), cell_set_self' h1, cell_o h2 (by decide), cell_o h3 (by decide), by simp [f1], by simp [f2], by simp [f3], rd_setP hr hn _ _, hn⟩
theorem Rr.setF {w : World} {p : Nat} {a : Option Addr} {cap : Nat} {l : List UInt8} {i f q : Int} (h : Rr w p a cap l i f q) (j : Int) : Rr (w.setCell ⟨p, 2, none⟩ (.int .i64 j)) p a cap l i j q := by
  obtain ⟨h0, h1, h2, h3, f1, f2, f3, hr, hn⟩ := h
  exact ⟨cell_o h0 (by decide), cell_o h1 (by decide), cell_set_self' h2, cell_o h3 (by decide), by simp [f1], by simp [f2], by simp [f3], rd_setP hr hn _ _, hn⟩
theorem Rr.setQ {w : World} {p : Nat} {a : Option Addr} {cap : Nat} {l : List UInt8} {i f q : Int} (h : Rr w p a cap l i f q) (j : Int) : Rr (w.setCell ⟨p, 3, none⟩ (.int .i64 j)) p a cap l i f j := by
  obtain ⟨h0, h1, h2, h3, f1, f2, f3, hr, hn⟩ := h
  exact ⟨cell_o h0 (by decide), cell_o h1 (by decide), cell_o h2 (by decide), cell_set_self' h3, by simp [f1], by simp [f2], by simp [f3], rd_setP hr hn _ _, hn⟩
theorem RDone.same {w : World} {p : Nat} {a : Option Addr} {cap : Nat} {l : List UInt8} {i f q : Int} (h : Rr w p a cap l i f q) : RDone w p a cap l i f q w := ⟨h, Fr.refl _ _⟩
theorem RDone.next {w w1 w2 : World} {p : Nat} {a : Option Addr} {cap : Nat} {l : List UInt8} {i f q : Int} (hf : Fr (IsP p) w w1) (h : RDone w1 p a cap l i f q w2) : RDone w p a cap l i f q w2 := ⟨h.1, hf.trans h.2⟩
theorem RDone.setAt {w w1 : World} {p : Nat} {a : Option Addr} {cap : Nat} {l : List UInt8} {i f q : Int} (h : RDone w p a cap l i f q w1) (j : Int) : RDone w p a cap l j f q (w1.setCell ⟨p, 1, none⟩ (.int .i64 j)) :=
  ⟨h.1.setAt j, frP h.2 _ _⟩
theorem RDone.drewN {w w1 : World} {p : Nat} {a : Option Addr} {cap : Nat} {l : List UInt8} {i f q : Int} (h : RDone w p a cap l i f q w1) (n : Nat) : RDone w p a cap l i f q (w1.drewN n) :=
  ⟨h.1.below (below_drewN (Below.refl _ _) n), h.2.trans (Fr.of_new (below_drewN (Below.refl _ _) n))⟩
set_option maxHeartbeats 1000000 in
theorem fail_any (e q' : Int) (he : (e != 0) = true) (p : Nat) (a : Option Addr) (cap : Nat) (l : List UInt8) (i q : Int) (w : World) (h : Rr w p a cap l i 0 q) :
    Calls Tryz.prog 101 #[.pointer (some ⟨p, 0, none⟩), .int .i64 e, .int .i64 q'] w fun x w' => x = .returned (.tuple #[]) ∧ RDone w p a cap l i e q' w' := by
  have HR := Lib.hid h
  obtain ⟨h0, h1, h2, h3, f1, f2, f3, _, _⟩ := h
  have hl := World.block_lt_of_cell? w _ h0
  have g3 := cell_o (v := .int .i64 e) h3 (o := 2) (by decide)
  go_enter Tryz.func101, Tryz.ntmps101
  go_wp2
  go_end0
  exact ⟨rfl, (HR.out.setF e).setQ q', frP (frP (Fr.refl _ _) _ _) _ _⟩
set_option maxHeartbeats 1000000 in
theorem stop_any (e q' : Int) (p : Nat) (a : Option Addr) (cap : Nat) (l : List UInt8) (i q : Int) (w : World) (h : Rr w p a cap l i 0 q) :
    Calls Tryz.prog 95 #[.pointer (some ⟨p, 0, none⟩), .int .i64 e, .int .i64 q'] w fun x w' => x = .returned (.tuple #[]) ∧ RDone w p a cap l i e q' w' := by
  have HR := Lib.hid h
  obtain ⟨h0, h1, h2, h3, f1, f2, f3, _, _⟩ := h
  have hl := World.block_lt_of_cell? w _ h0
  have g3 := cell_o (v := .int .i64 e) h3 (o := 2) (by decide)
  go_enter Tryz.func95, Tryz.ntmps95
  go_wp2
  go_end0
  exact ⟨rfl, (HR.out.setF e).setQ q', frP (frP (Fr.refl _ _) _ _) _ _⟩
end Go.Proofs.YtkinhilkmjfjhaaGreat

/-! ### The reader's number (X9 turned). -/
namespace Go.Proofs.YtkinhilkmjfjhaaGreat
set_option maxRecDepth 100000
open Go.RowKit
attribute [local go_sem] bs_size bs_get bs_toList
def numV (l : List UInt8) (i : Nat) : Value :=
  if rdE (l.drop i) = 0 then .tuple #[.int .i64 (rdN (l.drop i)), .int .i64 ((i + (endOf (l.drop i) + 1) : Nat) : Int), .bool true] else .tuple #[.int .i64 0, .int .i64 (i : Int), .bool false]
def errP (l : List UInt8) (i : Nat) : Int := if rdE (l.drop i) = 5 then (l.length : Int) else (i : Int)
/-- What number does. -/
def NumPost (w : World) (p : Nat) (a : Option Addr) (cap : Nat) (l : List UInt8) (i0 q : Int) (i : Nat) (e : Ending) (w' : World) : Prop :=
  e = .returned (numV l i) ∧ (rdE (l.drop i) = 0 → RDone w p a cap l i0 0 q w') ∧ (rdE (l.drop i) ≠ 0 → RDone w p a cap l i0 (rdE (l.drop i)) (errP l i) w')
theorem numpost_bad {w w' : World} {p : Nat} {a : Option Addr} {cap : Nat} {l : List UInt8} {i0 q : Int} {i : Nat} {er : Int} (hE : rdE (l.drop i) = er) (h0 : er ≠ 0) (h : RDone w p a cap l i0 er (if er = 5 then (l.length : Int) else (i : Int)) w') :
    NumPost w p a cap l i0 q i (.returned (.tuple #[.int .i64 0, .int .i64 (i : Int), .bool false])) w' := by
  refine ⟨?_, fun h1 => absurd (hE.symm.trans h1) h0, fun _ => ?_⟩
  · unfold numV; rw [hE, if_neg h0]
  · unfold errP; rw [hE]; exact h
theorem numpost_ok {w w' : World} {p : Nat} {a : Option Addr} {cap : Nat} {l : List UInt8} {i0 q : Int} {i : Nat} (hE : rdE (l.drop i) = 0) (h : RDone w p a cap l i0 0 q w') {n nx : Int} (hn : n = rdN (l.drop i)) (hx : nx = ((i + (endOf (l.drop i) + 1) : Nat) : Int)) :
    NumPost w p a cap l i0 q i (.returned (.tuple #[.int .i64 n, .int .i64 nx, .bool true])) w' := by
  refine ⟨?_, fun _ => h, fun h1 => absurd hE h1⟩
  unfold numV; rw [hE, if_pos rfl, hn, hx]
theorem getD_drop (l : List UInt8) (i k : Nat) : (l.drop i).getD k 0 = l.getD (i + k) 0 := by simp [List.getD]
theorem and127_n8 (c : UInt8) : bits .and .u8 (n8 c) 127 = n8 (c &&& 127) := n8_and c 127
theorem and1_n64 (u : UInt64) : bits .and .u64 (n64 u) 1 = n64 (u &&& 1) := n64_and u 1
theorem u_half (u : UInt64) : IntKind.i64.wrap (n64 (u >>> 1)) = ((u.toNat / 2 : Nat) : Int) := by
  have h := u.toNat_lt
  have e : (u >>> 1).toNat = u.toNat / 2 := by rw [UInt64.toNat_shiftRight, show (1 : UInt64).toNat % 64 = 1 from rfl, Nat.shiftRight_eq_div_pow]
  unfold n64; rw [e]; exact IntWalk.i64_in _ (by omega)
theorem u_odd (u : UInt64) : (n64 (u &&& 1) == 1) = decide (u.toNat % 2 = 1) := by
  unfold n64
  rw [UInt64.toNat_and, show (1 : UInt64).toNat = 2 ^ 1 - 1 from rfl, Nat.and_two_pow_sub_one_eq_mod, Bool.eq_iff_iff]
  simp; omega
theorem not_i64 (H : Nat) (h : H < 9223372036854775808) : Op.unary .xor (.int .i64 (H : Int)) = pure (.int .i64 (-(H : Int) - 1)) := by
  have e : (if IntKind.i64.signed then (-1 : Int) else IntKind.i64.max) = -1 := by decide
  rw [unary_xor, intBits_xor, e, Lib.i64_not H h]
theorem stU_succ (m : List UInt8) (k : Nat) : stU m (k + 1) = if (stU m k).2 || (decide (9 < k) || (decide (k = 9) && decide (1 < (m.getD k 0).toNat % 128))) then ((stU m k).1, true)
    else ((stU m k).1 ||| ((m.getD k 0 &&& 127).toUInt64 <<< UInt64.ofNat (7 * k)), false) := rfl
theorem n8_c127 (c : UInt8) : decide ((1 : Int) < n8 (c &&& 127)) = decide (1 < c.toNat % 128) := by
  unfold n8; rw [and127, Bool.eq_iff_iff]; simp; omega
set_option maxHeartbeats 4000000 in
theorem rnum_any (i : Nat) (p : Nat) (a : Option Addr) (cap : Nat) (l : List UInt8) (hl : l.length ≤ 1000000) (hi : i ≤ l.length) (i0 q : Int) (w : World) (h : Rr w p a cap l i0 0 q) :
    Calls Tryz.prog 92 #[.pointer (some ⟨p, 0, none⟩), .int .i64 (i : Int)] w (NumPost w p a cap l i0 q i) := by
  have HR := Lib.hid h
  obtain ⟨h0, h1, h2, h3, f1, f2, f3, hrd, _⟩ := h
  have hpl : p < w.heap.size := World.block_lt_of_cell? w _ h0
  have HRD := Lib.hid hrd
  obtain ⟨n, hn⟩ : ∃ n, l.length = n := ⟨_, rfl⟩
  have HN := Lib.hid hn
  rw [hn] at hl hi h0
  clear hn hrd
  go_enter Tryz.func92, Tryz.ntmps92
  go_wp2_with fail
  go_loop [7, 8, 9] (fun u o j => ∃ k : Nat, i + k ≤ n ∧ j = .int .i64 ((i : Int) + (k : Int)) ∧ u = .int .u64 (n64 (stU (l.drop i) k).1) ∧ o = .bool (stU (l.drop i) k).2 ∧ Hid (∀ j, j < k → 128 ≤ ((l.drop i).getD j 0).toNat)) (fun _ _ j => n - (intOf j).toNat)
  case atStart => exact ⟨0, by omega, by simp, rfl, rfl, fun j hj => absurd hj (Nat.not_lt_zero _)⟩
  case round =>
    obtain ⟨k, hk, rfl, rfl, rfl, HA⟩ := hrel
    have hk0 : (i : Int) + (k : Int) - (i : Int) = (k : Int) := by omega
    by_cases hlt : i + k < n
    · obtain ⟨b, off, ha, hbl, hcell⟩ := HRD.out.at (by rw [HN.out]; omega)
      subst ha
      have hc0 := hcell (i + k) (by rw [HN.out]; exact hlt)
      clear hcell
      obtain ⟨c, hc⟩ : ∃ c, l.getD (i + k) 0 = c := ⟨_, rfl⟩
      rw [hc] at hc0
      have HC : Hid ((l.drop i).getD k 0 = c) := by rw [getD_drop]; exact hc
      clear hc
      obtain ⟨u, hu⟩ : ∃ u, (stU (l.drop i) k).1 = u := ⟨_, rfl⟩
      obtain ⟨ov, ho⟩ : ∃ o, (stU (l.drop i) k).2 = o := ⟨_, rfl⟩
      have HS0 := Lib.hid (stU_succ (l.drop i) k)
      rw [hu, ho, HC.out] at HS0
      rw [hu, ho]
      clear hu ho
      have q1 := and127_n8 c
      have q2 := n8_to64 (c &&& 127)
      obtain ⟨Y, hY⟩ : ∃ Y, (c &&& 127).toUInt64 = Y := ⟨_, rfl⟩
      rw [hY] at q2 HS0
      clear hY
      obtain ⟨Z, hZ⟩ : ∃ Z, Y <<< UInt64.ofNat (7 * k) = Z := ⟨_, rfl⟩
      have HQ4 : Hid (k ≤ 9 → IntKind.u64.wrap (n64 Y * (2 : Int) ^ (7 * k)) = n64 Z) := fun h => by rw [← hZ]; exact n64_shl Y (7 * k) (by omega)
      rw [hZ] at HS0
      clear hZ
      have q5 := n64_or u Z
      have q6 := n8_c127 c
      have hgrp : (ov = true ∨ (ov = false ∧ 9 < k) ∨ (ov = false ∧ k = 9 ∧ 1 < c.toNat % 128)) ∨ ((ov = false ∧ k = 9 ∧ ¬ 1 < c.toNat % 128) ∨ (ov = false ∧ k < 9)) := by
        cases ov with
        | true => exact .inl (.inl rfl)
        | false =>
          by_cases x1 : 9 < k
          · exact .inl (.inr (.inl ⟨rfl, x1⟩))
          · by_cases x2 : k = 9
            · by_cases x3 : 1 < c.toNat % 128
              · exact .inl (.inr (.inr ⟨rfl, x2, x3⟩))
              · exact .inr (.inl ⟨rfl, x2, x3⟩)
            · exact .inr (.inr ⟨rfl, by omega⟩)
      rcases hgrp with hT | hF
      · have HS : Hid (stU (l.drop i) (k + 1) = (u, true)) := by
          rw [HS0.out]
          refine if_pos ?_
          rcases hT with h | ⟨h, h2⟩ | ⟨h, h2, h3⟩
          · rw [h]; rfl
          · rw [h, decide_eq_true h2]; rfl
          · rw [h, decide_eq_true h2, decide_eq_true h3]; simp
        clear HS0 q5 q2
        by_cases h8 : 128 ≤ c.toNat
        · have hd : decide (128 ≤ n8 c) = true := decide_eq_true (by unfold n8; omega)
          have HA2 : Hid (∀ j, j < k + 1 → 128 ≤ ((l.drop i).getD j 0).toNat) := fun j hj => by rcases Nat.lt_succ_iff_lt_or_eq.1 hj with h | h; exact HA.out j h; rw [h, HC.out]; exact h8
          clear h8
          rcases hT with rfl | ⟨rfl, h2⟩ | ⟨rfl, h2, h3⟩
          · go_wp2
            go_round
            case rel => exact ⟨k + 1, by omega, by go_num, by rw [HS.out], by rw [HS.out], HA2.out⟩
            case measure => simp [intOf]; omega
          · go_wp2
            go_round
            case rel => exact ⟨k + 1, by omega, by go_num, by rw [HS.out], by rw [HS.out], HA2.out⟩
            case measure => simp [intOf]; omega
          · have k9 : ((k : Int) == 9) = true := by rw [beq_iff_eq]; omega
            have k10 : decide (9 < (k : Int)) = false := decide_eq_false (by omega)
            have H2 := Lib.hid h2
            rw [decide_eq_true h3] at q6
            clear h2 h3
            go_wp2
            go_round
            case rel => exact ⟨k + 1, by omega, by go_num, by rw [HS.out], by rw [HS.out], HA2.out⟩
            case measure => simp [intOf]; omega
        · have hd : decide (128 ≤ n8 c) = false := decide_eq_false (by unfold n8; omega)
          have hend : endOf (l.drop i) = k := (endOf_at (l.drop i) k HA.out (by rw [List.length_drop, HN.out]; omega)).1 (by rw [List.length_drop, HN.out]; omega) (by rw [HC.out]; omega)
          have hr := rdE_last (m := l.drop i) (by rw [hend, List.length_drop, HN.out]; omega)
          rw [hend, HS.out, HC.out] at hr
          have hE : rdE (l.drop i) = 4 := by rw [hr.1]; rfl
          have HE := Lib.hid hE
          clear hE hr hend h8
          rcases hT with rfl | ⟨rfl, h2⟩ | ⟨rfl, h2, h3⟩
          · go_wp2_with (go_at_call 101; ((with_reducible refine (fail_any 4 _ rfl p _ _ _ _ _ _ HR.out).mono ?_); rintro e w' ⟨rfl, hdn⟩; have HD := Lib.hid hdn; clear hdn))
            go_ret3
            exact numpost_bad HE.out (by decide) HD.out
          · go_wp2_with (go_at_call 101; ((with_reducible refine (fail_any 4 _ rfl p _ _ _ _ _ _ HR.out).mono ?_); rintro e w' ⟨rfl, hdn⟩; have HD := Lib.hid hdn; clear hdn))
            go_ret3
            exact numpost_bad HE.out (by decide) HD.out
          · have k9 : ((k : Int) == 9) = true := by rw [beq_iff_eq]; omega
            have k10 : decide (9 < (k : Int)) = false := decide_eq_false (by omega)
            rw [decide_eq_true h3] at q6
            clear h2 h3
            go_wp2_with (go_at_call 101; ((with_reducible refine (fail_any 4 _ rfl p _ _ _ _ _ _ HR.out).mono ?_); rintro e w' ⟨rfl, hdn⟩; have HD := Lib.hid hdn; clear hdn))
            go_ret3
            exact numpost_bad HE.out (by decide) HD.out
      · have HS : Hid (stU (l.drop i) (k + 1) = (u ||| Z, false)) := by
          rw [HS0.out]
          refine if_neg ?_
          rcases hF with ⟨h, h2, h3⟩ | ⟨h, h2⟩
          · rw [h, decide_eq_false (show ¬ 9 < k by omega), decide_eq_false h3]; simp
          · rw [h, decide_eq_false (show ¬ 9 < k by omega), decide_eq_false (show ¬ k = 9 by omega)]; simp
        clear HS0
        by_cases h8 : 128 ≤ c.toNat
        · have hd : decide (128 ≤ n8 c) = true := decide_eq_true (by unfold n8; omega)
          have HA2 : Hid (∀ j, j < k + 1 → 128 ≤ ((l.drop i).getD j 0).toNat) := fun j hj => by rcases Nat.lt_succ_iff_lt_or_eq.1 hj with h | h; exact HA.out j h; rw [h, HC.out]; exact h8
          clear h8
          rcases hF with ⟨rfl, h2, h3⟩ | ⟨rfl, h2⟩
          · have k9 : ((k : Int) == 9) = true := by rw [beq_iff_eq]; omega
            have k10 : decide (9 < (k : Int)) = false := decide_eq_false (by omega)
            have H2 := Lib.hid h2
            rw [decide_eq_false h3] at q6
            clear h2 h3
            have Z0 := HQ4.out (by first | omega | (have := H2.out; omega))
            go_wp2
            go_round
            case rel => exact ⟨k + 1, by omega, by go_num, by rw [HS.out], by rw [HS.out], HA2.out⟩
            case measure => simp [intOf]; omega
          · have k9 : ((k : Int) == 9) = false := by rw [beq_eq_false_iff_ne]; omega
            have k10 : decide (9 < (k : Int)) = false := decide_eq_false (by omega)
            have Z0 := HQ4.out (by first | omega | (have := H2.out; omega))
            go_wp2
            go_round
            case rel => exact ⟨k + 1, by omega, by go_num, by rw [HS.out], by rw [HS.out], HA2.out⟩
            case measure => simp [intOf]; omega
        · have hd : decide (128 ≤ n8 c) = false := decide_eq_false (by unfold n8; omega)
          have hend : endOf (l.drop i) = k := (endOf_at (l.drop i) k HA.out (by rw [List.length_drop, HN.out]; omega)).1 (by rw [List.length_drop, HN.out]; omega) (by rw [HC.out]; omega)
          have hr := rdE_last (m := l.drop i) (by rw [hend, List.length_drop, HN.out]; omega)
          rw [hend, HS.out, HC.out] at hr
          rcases hF with ⟨rfl, h2, h3⟩ | ⟨rfl, h2⟩
          · have k9 : ((k : Int) == 9) = true := by rw [beq_iff_eq]; omega
            have k10 : decide (9 < (k : Int)) = false := decide_eq_false (by omega)
            have H2 := Lib.hid h2
            rw [decide_eq_false h3] at q6
            clear h2 h3
            have Z0 := HQ4.out (by first | omega | (have := H2.out; omega))
            have hz : ((n8 c == 0) = true ∧ decide (0 < k) = true ∧ rdE (l.drop i) = 4) ∨ (((n8 c == 0) = false ∨ ((n8 c == 0) = true ∧ decide (0 < k) = false)) ∧ rdE (l.drop i) = 0) := by
              rw [hr.1]
              by_cases z1 : c.toNat = 0
              · have e1 : (n8 c == 0) = true := by unfold n8; rw [beq_iff_eq]; omega
                by_cases z2 : 0 < k
                · exact .inl ⟨e1, decide_eq_true z2, by simp [z1, z2]⟩
                · exact .inr ⟨.inr ⟨e1, decide_eq_false z2⟩, by simp [z2]⟩
              · exact .inr ⟨.inl (by unfold n8; rw [beq_eq_false_iff_ne]; omega), by simp [z1]⟩
            have hval := hr.2 rfl
            generalize hu1 : u ||| Z = u1 at *
            have HV1 := Lib.hid hval
            have HEND := Lib.hid hend
            clear hval hr hend h8 hu1 HS
            rcases hz with ⟨z1, z2, z3⟩ | ⟨z1, z3⟩
            · have HE := Lib.hid z3
              clear z3
              go_wp2_with (go_at_call 101; ((with_reducible refine (fail_any 4 _ rfl p _ _ _ _ _ _ HR.out).mono ?_); rintro e w' ⟨rfl, hdn⟩; have HD := Lib.hid hdn; clear hdn))
              go_ret3
              exact numpost_bad HE.out (by decide) HD.out
            · have HE := Lib.hid z3
              have HR0 := Lib.hid (RDone.same HR.out)
              have hnn := n64_nn u1
              have hnl := n64_le u1
              have hh3 := and1_n64 u1
              have hh4 := u_odd u1
              have hH : u1.toNat / 2 < 9223372036854775808 := by have := u1.toNat_lt; omega
              have hhe : n64 u1 / (2 : Int) = ((u1.toNat / 2 : Nat) : Int) := by unfold n64; omega
              have hh5 : bits .xor .i64 (-1) (n64 u1 / (2 : Int)) = -(n64 u1 / (2 : Int)) - 1 := by rw [hhe]; exact Lib.i64_not _ hH
              have HNX : Hid ((i : Int) + (k : Int) + 1 = ((i + (endOf (l.drop i) + 1) : Nat) : Int)) := by rw [HEND.out]; show _ = _; omega
              clear z3 hH
              by_cases ho1 : u1.toNat % 2 = 1
              · have HU : Hid (-(n64 u1 / (2 : Int)) - 1 = rdN (l.drop i)) := by rw [hhe]; unfold rdN; rw [HE.out, if_pos rfl, ← HV1.out]; unfold unzz; rw [if_pos ho1]; exact rfl
                rw [decide_eq_true ho1] at hh4
                clear ho1
                clear hhe
                rcases z1 with z1 | ⟨z1, z2⟩
                · go_wp2
                  go_ret3
                  exact numpost_ok HE.out HR0.out HU.out HNX.out
                · go_wp2
                  go_ret3
                  exact numpost_ok HE.out HR0.out HU.out HNX.out
              · have HU : Hid (n64 u1 / (2 : Int) = rdN (l.drop i)) := by rw [hhe]; unfold rdN; rw [HE.out, if_pos rfl, ← HV1.out]; unfold unzz; rw [if_neg ho1]; exact rfl
                rw [decide_eq_false ho1] at hh4
                clear ho1
                clear hhe
                rcases z1 with z1 | ⟨z1, z2⟩
                · go_wp2
                  go_ret3
                  exact numpost_ok HE.out HR0.out HU.out HNX.out
                · go_wp2
                  go_ret3
                  exact numpost_ok HE.out HR0.out HU.out HNX.out
          · have k9 : ((k : Int) == 9) = false := by rw [beq_eq_false_iff_ne]; omega
            have k10 : decide (9 < (k : Int)) = false := decide_eq_false (by omega)
            have Z0 := HQ4.out (by first | omega | (have := H2.out; omega))
            have hz : ((n8 c == 0) = true ∧ decide (0 < k) = true ∧ rdE (l.drop i) = 4) ∨ (((n8 c == 0) = false ∨ ((n8 c == 0) = true ∧ decide (0 < k) = false)) ∧ rdE (l.drop i) = 0) := by
              rw [hr.1]
              by_cases z1 : c.toNat = 0
              · have e1 : (n8 c == 0) = true := by unfold n8; rw [beq_iff_eq]; omega
                by_cases z2 : 0 < k
                · exact .inl ⟨e1, decide_eq_true z2, by simp [z1, z2]⟩
                · exact .inr ⟨.inr ⟨e1, decide_eq_false z2⟩, by simp [z2]⟩
              · exact .inr ⟨.inl (by unfold n8; rw [beq_eq_false_iff_ne]; omega), by simp [z1]⟩
            have hval := hr.2 rfl
            generalize hu1 : u ||| Z = u1 at *
            have HV1 := Lib.hid hval
            have HEND := Lib.hid hend
            clear hval hr hend h8 hu1 HS
            rcases hz with ⟨z1, z2, z3⟩ | ⟨z1, z3⟩
            · have HE := Lib.hid z3
              clear z3
              go_wp2_with (go_at_call 101; ((with_reducible refine (fail_any 4 _ rfl p _ _ _ _ _ _ HR.out).mono ?_); rintro e w' ⟨rfl, hdn⟩; have HD := Lib.hid hdn; clear hdn))
              go_ret3
              exact numpost_bad HE.out (by decide) HD.out
            · have HE := Lib.hid z3
              have HR0 := Lib.hid (RDone.same HR.out)
              have hnn := n64_nn u1
              have hnl := n64_le u1
              have hh3 := and1_n64 u1
              have hh4 := u_odd u1
              have hH : u1.toNat / 2 < 9223372036854775808 := by have := u1.toNat_lt; omega
              have hhe : n64 u1 / (2 : Int) = ((u1.toNat / 2 : Nat) : Int) := by unfold n64; omega
              have hh5 : bits .xor .i64 (-1) (n64 u1 / (2 : Int)) = -(n64 u1 / (2 : Int)) - 1 := by rw [hhe]; exact Lib.i64_not _ hH
              have HNX : Hid ((i : Int) + (k : Int) + 1 = ((i + (endOf (l.drop i) + 1) : Nat) : Int)) := by rw [HEND.out]; show _ = _; omega
              clear z3 hH
              by_cases ho1 : u1.toNat % 2 = 1
              · have HU : Hid (-(n64 u1 / (2 : Int)) - 1 = rdN (l.drop i)) := by rw [hhe]; unfold rdN; rw [HE.out, if_pos rfl, ← HV1.out]; unfold unzz; rw [if_pos ho1]; exact rfl
                rw [decide_eq_true ho1] at hh4
                clear ho1
                clear hhe
                rcases z1 with z1 | ⟨z1, z2⟩
                · go_wp2
                  go_ret3
                  exact numpost_ok HE.out HR0.out HU.out HNX.out
                · go_wp2
                  go_ret3
                  exact numpost_ok HE.out HR0.out HU.out HNX.out
              · have HU : Hid (n64 u1 / (2 : Int) = rdN (l.drop i)) := by rw [hhe]; unfold rdN; rw [HE.out, if_pos rfl, ← HV1.out]; unfold unzz; rw [if_neg ho1]; exact rfl
                rw [decide_eq_false ho1] at hh4
                clear ho1
                clear hhe
                rcases z1 with z1 | ⟨z1, z2⟩
                · go_wp2
                  go_ret3
                  exact numpost_ok HE.out HR0.out HU.out HNX.out
                · go_wp2
                  go_ret3
                  exact numpost_ok HE.out HR0.out HU.out HNX.out
    · have hkn : i + k = n := by omega
      have hml : (l.drop i).length = k := by rw [List.length_drop, HN.out]; omega
      have hE : Hid (rdE (l.drop i) = 5) := by
        have h1 := (endOf_at (l.drop i) k HA.out (by omega)).2
        have h2 := endOf_le (l.drop i)
        show rdE (l.drop i) = 5
        unfold rdE; rw [if_pos (by omega)]
      have hd : decide ((i : Int) + (k : Int) < (n : Int)) = false := decide_eq_false (by omega)
      clear hkn hml
      go_wp2_with (go_at_call 101; ((with_reducible refine (fail_any 5 _ rfl p _ _ _ _ _ _ HR.out).mono ?_); rintro e w' ⟨rfl, hdn⟩; have HD := Lib.hid hdn; clear hdn))
      go_ret3
      exact numpost_bad hE.out (by decide) (by rw [if_pos rfl, HN.out]; exact HD.out)
end Go.Proofs.YtkinhilkmjfjhaaGreat

/-! ### The reader's count, fault, end, new (X10, X11, X12 turned). -/
namespace Go.Proofs.YtkinhilkmjfjhaaGreat
set_option maxRecDepth 100000
open Go.RowKit
attribute [local go_sem] bs_size bs_get bs_toList
theorem RDone.rr {w w' : World} {p : Nat} {a : Option Addr} {cap : Nat} {l : List UInt8} {i f q : Int} (h : RDone w p a cap l i f q w') : Rr w' p a cap l i f q := h.1
/-- What the reading of a number from 0 to most finds. -/
def cE (l : List UInt8) (i : Nat) (most ab : Int) : Int := if rdE (l.drop i) ≠ 0 then rdE (l.drop i) else if rdN (l.drop i) < 0 then 4 else if most < rdN (l.drop i) then ab else 0
def cP (l : List UInt8) (i : Nat) : Int := if rdE (l.drop i) = 5 then (l.length : Int) else (i : Int)
def cN (l : List UInt8) (i : Nat) : Nat := i + (endOf (l.drop i) + 1)
theorem cN_le {l : List UInt8} {i : Nat} (hi : i ≤ l.length) (h : rdE (l.drop i) = 0) : cN l i ≤ l.length := by
  have h1 := endOf_le (l.drop i)
  have h2 : endOf (l.drop i) ≠ (l.drop i).length := fun e => by unfold rdE at h; rw [if_pos e] at h; cases h
  rw [List.length_drop] at h1 h2
  unfold cN; omega
theorem num_ok {i : Nat} {p : Nat} {a : Option Addr} {cap : Nat} {l : List UInt8} (hl : l.length ≤ 1000000) (hi : i ≤ l.length) {i0 q : Int} (hE : rdE (l.drop i) = 0) (w : World) (h : Rr w p a cap l i0 0 q) :
    Calls Tryz.prog 92 #[.pointer (some ⟨p, 0, none⟩), .int .i64 (i : Int)] w fun e w' => e = .returned (.tuple #[.int .i64 (rdN (l.drop i)), .int .i64 (cN l i : Int), .bool true]) ∧ RDone w p a cap l i0 0 q w' :=
  (rnum_any i p a cap l hl hi i0 q w h).mono fun e w' ⟨h1, h2, _⟩ => ⟨by rw [h1]; unfold numV; rw [if_pos hE]; rfl, h2 hE⟩
theorem num_bad {i : Nat} {p : Nat} {a : Option Addr} {cap : Nat} {l : List UInt8} (hl : l.length ≤ 1000000) (hi : i ≤ l.length) {i0 q : Int} (hE : rdE (l.drop i) ≠ 0) (w : World) (h : Rr w p a cap l i0 0 q) :
    Calls Tryz.prog 92 #[.pointer (some ⟨p, 0, none⟩), .int .i64 (i : Int)] w fun e w' => e = .returned (.tuple #[.int .i64 0, .int .i64 (i : Int), .bool false]) ∧ RDone w p a cap l i0 (rdE (l.drop i)) (cP l i) w' :=
  (rnum_any i p a cap l hl hi i0 q w h).mono fun e w' ⟨h1, _, h3⟩ => ⟨by rw [h1]; unfold numV; rw [if_neg hE], h3 hE⟩
/-- What count does. -/
def CntPost (w : World) (p : Nat) (a : Option Addr) (cap : Nat) (l : List UInt8) (i : Nat) (q most ab : Int) (e : Ending) (w' : World) : Prop :=
  (cE l i most ab = 0 → e = .returned (.tuple #[.int .i64 (rdN (l.drop i)), .int .i64 (cN l i : Int), .bool true]) ∧ RDone w p a cap l i 0 q w') ∧
  (cE l i most ab ≠ 0 → e = .returned (.tuple #[.int .i64 0, .int .i64 (i : Int), .bool false]) ∧ RDone w p a cap l i (cE l i most ab) (cP l i) w')
set_option maxHeartbeats 4000000 in
theorem count_any (most ab : Int) (hab : (ab != 0) = true) (i : Nat) (p : Nat) (a : Option Addr) (cap : Nat) (l : List UInt8) (hl : l.length ≤ 1000000) (hi : i ≤ l.length) (q : Int) (w : World) (h : Rr w p a cap l i 0 q) :
    Calls Tryz.prog 93 #[.pointer (some ⟨p, 0, none⟩), .int .i64 most, .int .i64 ab] w (CntPost w p a cap l i q most ab) := by
  have HR := Lib.hid h
  obtain ⟨h0, h1, h2, h3, f1, f2, f3, hrd, _⟩ := h
  have hpl : p < w.heap.size := World.block_lt_of_cell? w _ h0
  clear hrd
  by_cases hE : rdE (l.drop i) = 0
  · have HE := Lib.hid hE
    have HNO : Hid (∀ W, Rr W p a cap l i 0 q → Calls Tryz.prog 92 #[.pointer (some ⟨p, 0, none⟩), .int .i64 (i : Int)] W fun e w' => e = .returned (.tuple #[.int .i64 (rdN (l.drop i)), .int .i64 (cN l i : Int), .bool true]) ∧ RDone W p a cap l i 0 q w') := fun W h => num_ok hl hi hE W h
    have HCE : Hid (cE l i most ab = if rdN (l.drop i) < 0 then 4 else if most < rdN (l.drop i) then ab else 0) := by unfold cE; rw [if_neg (by rw [hE]; simp)]; exact rfl
    have HCP : Hid (cP l i = i) := by unfold cP; rw [hE, if_neg (by decide)]; exact rfl
    clear hE
    obtain ⟨N, hN⟩ : ∃ N, rdN (l.drop i) = N := ⟨_, rfl⟩
    have HNN := Lib.hid hN
    rw [hN] at HNO HCE
    clear hN
    go_enter Tryz.func93, Tryz.ntmps93
    go_wp2_with fail
    go_at_call 92
    refine (HNO.out _ HR.out).mono ?_
    rintro e w1 ⟨rfl, hd1⟩
    have HD1 := Lib.hid hd1
    obtain ⟨g0, g1, g2, g3, k1, k2, k3, _, _⟩ := hd1.1
    have hp1 : p < w1.heap.size := World.block_lt_of_cell? w1 _ g0
    clear hd1 h0 h1 h2 h3 f1 f2 f3
    by_cases c1 : N < 0
    · have HC : Hid (cE l i most ab = 4) := by rw [HCE.out, if_pos c1]; exact rfl
      have d1 : decide (N < 0) = true := decide_eq_true c1
      clear c1 HCE
      go_wp2_with (go_at_call 101; ((with_reducible refine (fail_any 4 _ rfl p _ _ _ _ _ _ HD1.out.rr).mono ?_); rintro e w2 ⟨rfl, hd2⟩; have HD2 := Lib.hid hd2; obtain ⟨m0, m1, m2, m3, j1, j2, j3, _, _⟩ := hd2.1; clear hd2 g0 g1 g2 g3 k1 k2 k3))
      go_quiet (fail)
      go_wp2
      go_ret3
      exact ⟨fun h => absurd (HC.out.symm.trans h) (by decide), fun _ => ⟨rfl, by rw [HC.out, HCP.out]; exact (RDone.next HD1.out.2 HD2.out).drewN _⟩⟩
    · have d1 : decide (N < 0) = false := decide_eq_false c1
      by_cases c2 : most < N
      · have HC : Hid (cE l i most ab = ab) := by rw [HCE.out, if_neg c1, if_pos c2]; exact rfl
        have d2 : decide (most < N) = true := decide_eq_true c2
        have hab0 : Hid (ab ≠ 0) := by intro h; rw [h] at hab; cases hab
        clear c1 c2 HCE
        go_wp2_with (go_at_call 101; ((with_reducible refine (fail_any ab _ hab p _ _ _ _ _ _ HD1.out.rr).mono ?_); rintro e w2 ⟨rfl, hd2⟩; have HD2 := Lib.hid hd2; obtain ⟨m0, m1, m2, m3, j1, j2, j3, _, _⟩ := hd2.1; clear hd2 g0 g1 g2 g3 k1 k2 k3))
        go_quiet (fail)
        go_wp2
        go_ret3
        exact ⟨fun h => absurd (HC.out.symm.trans h) hab0.out, fun _ => ⟨rfl, by rw [HC.out, HCP.out]; exact (RDone.next HD1.out.2 HD2.out).drewN _⟩⟩
      · have HC : Hid (cE l i most ab = 0) := by rw [HCE.out, if_neg c1, if_neg c2]; exact rfl
        have d2 : decide (most < N) = false := decide_eq_false c2
        clear c1 c2 HCE
        go_wp2
        go_ret3
        exact ⟨fun _ => ⟨by rw [HNN.out]; rfl, HD1.out⟩, fun h => absurd HC.out h⟩
  · have HCE : Hid (cE l i most ab = rdE (l.drop i)) := by unfold cE; exact if_pos hE
    have HNB : Hid (∀ W, Rr W p a cap l i 0 q → Calls Tryz.prog 92 #[.pointer (some ⟨p, 0, none⟩), .int .i64 (i : Int)] W fun e w' => e = .returned (.tuple #[.int .i64 0, .int .i64 (i : Int), .bool false]) ∧ RDone W p a cap l i (rdE (l.drop i)) (cP l i) w') := fun W h => num_bad hl hi hE W h
    have HE := Lib.hid hE
    clear hE
    go_enter Tryz.func93, Tryz.ntmps93
    go_wp2_with fail
    go_at_call 92
    refine (HNB.out _ HR.out).mono ?_
    rintro e w1 ⟨rfl, hd1⟩
    have HD1 := Lib.hid hd1
    obtain ⟨g0, g1, g2, g3, k1, k2, k3, _, _⟩ := hd1.1
    clear hd1 h0 h1 h2 h3 f1 f2 f3
    go_wp2_with fail
    go_quiet (fail)
    go_wp2
    go_ret3
    exact ⟨fun h => absurd (HCE.out.symm.trans h) HE.out, fun _ => ⟨rfl, by rw [HCE.out]; exact HD1.out.drewN _⟩⟩
set_option maxHeartbeats 1000000 in
theorem fault_any (p : Nat) (a : Option Addr) (cap : Nat) (l : List UInt8) (i f q : Int) (w : World) (h : Rr w p a cap l i f q) :
    Calls Tryz.prog 94 #[.pointer (some ⟨p, 0, none⟩)] w fun e w' => e = .returned (.tuple #[.int .i64 f, .int .i64 q]) ∧ ∃ n, w' = w.drewN n := by
  obtain ⟨h0, h1, h2, h3, f1, f2, f3, hrd, _⟩ := h
  clear hrd
  go_enter Tryz.func94, Tryz.ntmps94
  go_wp2_with fail
  go_quiet (fail)
  go_wp2
  go_ret2
  exact ⟨rfl, _, rfl⟩
/-- A new reader. -/
def NewPost (w : World) (l : List UInt8) (e : Ending) (w' : World) : Prop :=
  ∃ (p : Nat) (a : Option Addr) (cap : Nat), e = .returned (.pointer (some ⟨p, 0, none⟩)) ∧ Rr w' p a cap l 0 0 0 ∧ Below w.heap.size w w' ∧ w.heap.size ≤ p ∧ (∀ b, blk a = some b → w.heap.size ≤ b ∧ b < w'.heap.size)
theorem rr_new (w : World) (a : Option Addr) (cap : Nat) (l : List UInt8) (t : TypeId) (h : Rd8 w a l.length cap l) (hb : ∀ b, blk a = some b → b < w.heap.size) :
    Rr (w.alloc (.cells #[.slice a l.length cap, .int .i64 0, .int .i64 0, .int .i64 0] t)) w.heap.size a cap l 0 0 0 := by
  refine ⟨?_, ?_, ?_, ?_, by simp, by simp, by simp, h.below ((Below.refl _ _).alloc (Nat.le_refl _) _), fun e => by have := hb _ e; omega⟩ <;>
    (rw [cell_of_row _ w.heap.size _ _ t (0, 0) (heap_alloc_new w _)]; rfl)
set_option maxHeartbeats 1000000 in
theorem newReader_any (a0 : Option Addr) (cap0 : Nat) (l : List UInt8) (hl : l.length ≤ 1000000) (w : World) (h : Rd8 w a0 l.length cap0 l) :
    Calls Tryz.prog 48 #[.slice a0 l.length cap0] w (NewPost w l) := by
  have HR := Lib.hid h
  clear h
  go_enter Tryz.func48, Tryz.ntmps48
  go_wp2_with (at_builtin; refine wpList_app S8 rfl (.tmp 3) (.tmp 4) rfl w.heap.size rfl (World.ownsRow_lit w #[] 0 (Nat.le_refl _) (by decide) rfl) rfl (HR.out.2.below ((Below.refl _ _).alloc (Nat.le_refl _) _)) (B8_one _) (by omega) (by simp [maxLen]; omega) (by simp) ?_)
  intro v2 w2 hown' hb _
  have hown2 : Own8 w2 w.heap.size 5 v2 l := Own8.mk hown' (by simp) (by simp)
  have HB := Lib.hid (Below.trans ((Below.refl _ _).alloc (Nat.le_refl _) _) hb)
  have hlt : ∀ b, v2.ownBlock = some b → w.heap.size ≤ b ∧ b < w2.heap.size := fun b hb => World.ownsRow.lt hown2 b hb
  obtain ⟨a, cap, rfl, hr⟩ := hown2.rd
  have HRD := Lib.hid hr
  have HLT : Hid (∀ b, blk a = some b → w.heap.size ≤ b ∧ b < w2.heap.size) := fun b hb => hlt b (by cases a with | none => cases hb | some x => exact hb)
  clear hown' hown2 hb hlt hr
  go_wp2
  go_ret
  exact ⟨_, a, cap, rfl, rr_new w2 a cap l _ HRD.out (fun b hb => (HLT.out b hb).2), HB.out.alloc HB.out.size _, HB.out.size, fun b hb => ⟨(HLT.out b hb).1, Nat.lt_of_lt_of_le (HLT.out b hb).2 ((Below.refl 0 w2).alloc (Nat.zero_le _) _).size⟩⟩
theorem HRD0 {w : World} {p : Nat} {a : Option Addr} {cap : Nat} {l : List UInt8} {i f q : Int} (h : Rr w p a cap l i f q) (n : Nat) : Rr (w.drewN n) p a cap l i f q := h.below (below_drewN (Below.refl _ _) n)
theorem cE_bd {l : List UInt8} {i : Nat} {most ab : Int} (hab : ab ≠ 0) (h : cE l i most ab = 0) : rdE (l.drop i) = 0 ∧ 0 ≤ rdN (l.drop i) ∧ rdN (l.drop i) ≤ most := by
  unfold cE at h
  by_cases h0 : rdE (l.drop i) = 0
  · rw [if_neg (by simp [h0])] at h
    split at h
    · cases h
    · split at h
      · exact absurd h hab
      · exact ⟨h0, by omega, by omega⟩
  · rw [if_pos h0] at h; exact absurd h h0
set_option maxHeartbeats 1000000 in
theorem end_any (p : Nat) (a : Option Addr) (cap : Nat) (l : List UInt8) (_hl : l.length ≤ 1000000) (i : Nat) (f q : Int) (w : World) (h : Rr w p a cap l i f q) (hq : f = 0 → q = 0) :
    Calls Tryz.prog 51 #[.pointer (some ⟨p, 0, none⟩)] w fun e w' => e = .returned (if f = 0 ∧ i < l.length then .tuple #[.int .i64 6, .int .i64 i] else .tuple #[.int .i64 f, .int .i64 q]) ∧ Below w.heap.size w w' := by
  have HR := Lib.hid h
  obtain ⟨h0, h1, h2, h3, f1, f2, f3, hrd, _⟩ := h
  clear hrd
  by_cases hf : f = 0
  · subst hf
    obtain rfl := hq rfl
    clear hq
    by_cases hi : i < l.length
    · rw [if_pos ⟨rfl, hi⟩]
      have hd : decide ((i : Int) < (l.length : Int)) = true := decide_eq_true (by omega)
      go_enter Tryz.func51, Tryz.ntmps51
      go_wp2_with fail
      go_quiet (fail)
      go_wp2_with fail
      go_quiet (fail)
      go_wp2
      go_ret2
      exact ⟨rfl, by first | exact below_drewN (Below.refl _ _) _ | exact below_drewN (below_drewN (Below.refl _ _) _) _⟩
    · rw [if_neg (fun h => hi h.2)]
      have hd : decide ((i : Int) < (l.length : Int)) = false := decide_eq_false (by omega)
      go_enter Tryz.func51, Tryz.ntmps51
      go_wp2_with fail
      go_quiet (fail)
      go_wp2_with (go_at_call 94; ((with_reducible refine (fault_any p _ _ _ _ _ _ _ (HRD0 HR.out _)).mono ?_); rintro e w' ⟨rfl, nd, rfl⟩))
      go_ret2
      exact ⟨rfl, by first | exact below_drewN (Below.refl _ _) _ | exact below_drewN (below_drewN (Below.refl _ _) _) _⟩
  · clear hq
    rw [if_neg (fun h => hf h.1)]
    have hd : (f == 0) = false := beq_eq_false_iff_ne.2 hf
    go_enter Tryz.func51, Tryz.ntmps51
    go_wp2_with fail
    go_quiet (fail)
    go_wp2_with (go_at_call 94; ((with_reducible refine (fault_any p _ _ _ _ _ _ _ (HRD0 HR.out _)).mono ?_); rintro e w' ⟨rfl, nd, rfl⟩))
    go_ret2
    exact ⟨rfl, by first | exact below_drewN (Below.refl _ _) _ | exact below_drewN (below_drewN (Below.refl _ _) _) _⟩
end Go.Proofs.YtkinhilkmjfjhaaGreat
