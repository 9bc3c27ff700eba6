/-
  The walk of DatumBack. Written by a program (dlaw.py).
-/
import Derived.Test.YtecgjhjglklcnaaDoorX14
import Derived.Test.YtecgjhjglklcnaaDoorD23
namespace Go.Proofs.YtecgjhjglklcnaaDoor
set_option maxRecDepth 100000
open Go.RowKit Go.Shelf Go.Sort
attribute [local go_sem] bs_size bs_get bs_toList frombits tobits run_store_float
set_option maxHeartbeats 2000000 in
theorem back_l1 (k : Int) (x : UInt64) (s : List UInt8) (l : List UInt8) (w : World) (hT : Laid w) (HS : Hid (decide (s.length ≤ 2000) = false)) : Calls Tryd.prog 10 #[VA k x s, .string (bs l)] w fun e w' => e = .returned (.bool true) ∧ Below w.heap.size w w' := by
  unfold VA
  have HK : Hid (Kp w (w.alloc (.cells #[.int .i64 k, .float .f64 (fb x), .string (bs s)] 24))) := (Kp.start hT).alloc _
  clear hT
  obtain ⟨c0, c1, c2⟩ := vat w k x s 24
  have hsz : (bs l).size = l.length := bs_size l
  go_enter Tryd.func10, Tryd.ntmps10
  go_wp2_with (first | (go_at_call 11; ((with_reducible refine (first_any _ HK.out.laid).mono ?_); rintro e W ⟨rfl, hb⟩; have h4 := keepc3 ⟨c0, c1, c2, HK.out⟩ hb; clear c0 c1 c2 HK hb; obtain ⟨c0, c1, c2, HK'⟩ := h4; have HK := Lib.hid HK'; clear HK')) | (go_at_call 12; ((with_reducible refine (csmall HS.out _).mono ?_); rintro e W ⟨rfl, hb⟩; have h4 := keepc3 ⟨c0, c1, c2, HK.out⟩ hb; clear c0 c1 c2 HK hb; obtain ⟨c0, c1, c2, HK'⟩ := h4; have HK := Lib.hid HK'; clear HK')))
  go_ret
  exact ⟨rfl, HK.out.below⟩
set_option maxHeartbeats 2000000 in
theorem back_l2 (k : Int) (x : UInt64) (s : List UInt8) (l : List UInt8) (w : World) (hT : Laid w) (HS : Hid (decide (s.length ≤ 2000) = true)) (hl : ¬ l.length ≤ 2000) : Calls Tryd.prog 10 #[VA k x s, .string (bs l)] w fun e w' => e = .returned (.bool true) ∧ Below w.heap.size w w' := by
  unfold VA
  have HK : Hid (Kp w (w.alloc (.cells #[.int .i64 k, .float .f64 (fb x), .string (bs s)] 24))) := (Kp.start hT).alloc _
  clear hT
  obtain ⟨c0, c1, c2⟩ := vat w k x s 24
  have hsz : (bs l).size = l.length := bs_size l
  have hd : decide ((2000 : Int) < (l.length : Int)) = true := decide_eq_true (by omega)
  go_enter Tryd.func10, Tryd.ntmps10
  go_wp2_with (first | (go_at_call 11; ((with_reducible refine (first_any _ HK.out.laid).mono ?_); rintro e W ⟨rfl, hb⟩; have h4 := keepc3 ⟨c0, c1, c2, HK.out⟩ hb; clear c0 c1 c2 HK hb; obtain ⟨c0, c1, c2, HK'⟩ := h4; have HK := Lib.hid HK'; clear HK')) | (go_at_call 12; ((with_reducible refine (csmall HS.out _).mono ?_); rintro e W ⟨rfl, hb⟩; have h4 := keepc3 ⟨c0, c1, c2, HK.out⟩ hb; clear c0 c1 c2 HK hb; obtain ⟨c0, c1, c2, HK'⟩ := h4; have HK := Lib.hid HK'; clear HK')))
  go_ret
  exact ⟨rfl, HK.out.below⟩
theorem quote_bd (l : List UInt8) (hl : l.length ≤ 2000) : (quoteOf l).length ≤ 100000 := by
  have h1 := quoteTo_len l l.length; have h2 := quoteTo_all l l.length rfl; rw [← h2, List.length_append]; simp; omega
set_option maxHeartbeats 4000000 in
theorem back_no (k : Int) (x : UInt64) (s : List UInt8) (l : List UInt8) (w : World) (hT : Laid w) (HS : Hid (decide (s.length ≤ 2000) = true)) (hl : l.length ≤ 2000) (HM : Hid (mayB k x s = false)) : Calls Tryd.prog 10 #[VA k x s, .string (bs l)] w fun e w' => e = .returned (.bool true) ∧ Below w.heap.size w w' := by
  unfold VA
  have HK : Hid (Kp w (w.alloc (.cells #[.int .i64 k, .float .f64 (fb x), .string (bs s)] 24))) := (Kp.start hT).alloc _
  clear hT
  obtain ⟨c0, c1, c2⟩ := vat w k x s 24
  have hsz : (bs l).size = l.length := bs_size l
  have HU : Hid (unqV (quoteOf l) = .tuple #[.string (bs l), .int .i64 0]) := unqV_some l
  have HQL := Lib.hid (quote_bd l hl)
  obtain ⟨p, hp⟩ : ∃ p, parseD l = p := ⟨_, rfl⟩
  have HP := Lib.hid hp
  have HPT : Hid (p.e = 0 → textOf p.k p.x p.s = l) := fun h => by rw [← HP.out] at h ⊢; exact parse_text h
  clear hp
  have HSB : Hid (sameB k x s k x s = false) := by unfold sameB; rw [HM.out]; exact rfl
  cases hpe : (p.e == 0) with
  | true =>
    have HTX : Hid (textOf p.k p.x p.s = l) := HPT.out (eq_of_beq hpe)
    go_enter Tryd.func10, Tryd.ntmps10
    go_wp2_with (first | (go_at_call 11; ((with_reducible refine (first_any _ HK.out.laid).mono ?_); rintro e W ⟨rfl, hb⟩; have h4 := keepc3 ⟨c0, c1, c2, HK.out⟩ hb; clear c0 c1 c2 HK hb; obtain ⟨c0, c1, c2, HK'⟩ := h4; have HK := Lib.hid HK'; clear HK')) | (go_at_call 12; ((with_reducible refine (csmall HS.out _).mono ?_); rintro e W ⟨rfl, hb⟩; have h4 := keepc3 ⟨c0, c1, c2, HK.out⟩ hb; clear c0 c1 c2 HK hb; obtain ⟨c0, c1, c2, HK'⟩ := h4; have HK := Lib.hid HK'; clear HK')))
    go_at_call 26
    refine (cquote l (by omega) _).mono ?_
    rintro e W ⟨rfl, hb⟩
    have h4 := keepc3 ⟨c0, c1, c2, HK.out⟩ hb
    clear c0 c1 c2 HK hb
    obtain ⟨c0, c1, c2, HK'⟩ := h4
    have HK := Lib.hid HK'
    clear HK'
    go_wp2_with fail
    go_at_call 22
    refine (cunq HQL.out HU.out _).mono ?_
    rintro e W ⟨rfl, hb⟩
    have h4 := keepc3 ⟨c0, c1, c2, HK.out⟩ hb
    clear c0 c1 c2 HK hb
    obtain ⟨c0, c1, c2, HK'⟩ := h4
    have HK := Lib.hid HK'
    clear HK'
    go_wp2_with fail
    go_at_call 24
    refine (cparseA l (by omega) HP.out _).mono ?_
    rintro e Wp ⟨rfl, hb⟩
    have h4 := keepc3 ⟨c0, c1, c2, HK.out⟩ hb
    clear c0 c1 c2 HK hb
    obtain ⟨c0, c1, c2, HK'⟩ := h4
    have HK := Lib.hid HK'
    clear HK'
    have l0 : w.heap.size < Wp.heap.size := World.block_lt_of_cell? _ _ c0
    go_wp2_with fail
    go_at_call 28
    refine (cprintA _ _ _ HTX.out _ (HK.out.alloc _).laid).mono ?_
    rintro e Wq ⟨rfl, hb⟩
    have h4 := keepca3 ⟨c0, c1, c2, HK.out⟩ hb
    have hv := vat Wp p.k p.x p.s 24
    have d0 := keep1 hv.1 hb
    have d1 := keep1 hv.2.1 hb
    have d2 := keep1 hv.2.2 hb
    clear hv
    clear c0 c1 c2 HK hb
    obtain ⟨c0, c1, c2, HK'⟩ := h4
    have HK := Lib.hid HK'
    clear HK'
    have c3 := d0
    have c4 := d1
    have c5 := d2
    clear d0 d1 d2
    go_wp2_with (first | (go_at_call 20; ((with_reducible refine (cmayB _ _ _ HM.out _).mono ?_); rintro e W ⟨rfl, hb⟩; have h4 := keepc6 ⟨c0, c1, c2, c3, c4, c5, HK.out⟩ hb; clear c0 c1 c2 c3 c4 c5 HK hb; obtain ⟨c0, c1, c2, c3, c4, c5, HK'⟩ := h4; have HK := Lib.hid HK'; clear HK')) | (go_at_call 11; ((with_reducible refine (first_any _ HK.out.laid).mono ?_); rintro e W ⟨rfl, hb⟩; have h4 := keepc6 ⟨c0, c1, c2, c3, c4, c5, HK.out⟩ hb; clear c0 c1 c2 c3 c4 c5 HK hb; obtain ⟨c0, c1, c2, c3, c4, c5, HK'⟩ := h4; have HK := Lib.hid HK'; clear HK')) | (go_at_call 34; ((with_reducible refine (csame _ _ _ _ _ _ HSB.out _).mono ?_); rintro e W ⟨rfl, hb⟩; have h4 := keepc6 ⟨c0, c1, c2, c3, c4, c5, HK.out⟩ hb; clear c0 c1 c2 c3 c4 c5 HK hb; obtain ⟨c0, c1, c2, c3, c4, c5, HK'⟩ := h4; have HK := Lib.hid HK'; clear HK')))
    go_ret
    exact ⟨rfl, HK.out.below⟩
  | false =>
    go_enter Tryd.func10, Tryd.ntmps10
    go_wp2_with (first | (go_at_call 11; ((with_reducible refine (first_any _ HK.out.laid).mono ?_); rintro e W ⟨rfl, hb⟩; have h4 := keepc3 ⟨c0, c1, c2, HK.out⟩ hb; clear c0 c1 c2 HK hb; obtain ⟨c0, c1, c2, HK'⟩ := h4; have HK := Lib.hid HK'; clear HK')) | (go_at_call 12; ((with_reducible refine (csmall HS.out _).mono ?_); rintro e W ⟨rfl, hb⟩; have h4 := keepc3 ⟨c0, c1, c2, HK.out⟩ hb; clear c0 c1 c2 HK hb; obtain ⟨c0, c1, c2, HK'⟩ := h4; have HK := Lib.hid HK'; clear HK')))
    go_at_call 26
    refine (cquote l (by omega) _).mono ?_
    rintro e W ⟨rfl, hb⟩
    have h4 := keepc3 ⟨c0, c1, c2, HK.out⟩ hb
    clear c0 c1 c2 HK hb
    obtain ⟨c0, c1, c2, HK'⟩ := h4
    have HK := Lib.hid HK'
    clear HK'
    go_wp2_with fail
    go_at_call 22
    refine (cunq HQL.out HU.out _).mono ?_
    rintro e W ⟨rfl, hb⟩
    have h4 := keepc3 ⟨c0, c1, c2, HK.out⟩ hb
    clear c0 c1 c2 HK hb
    obtain ⟨c0, c1, c2, HK'⟩ := h4
    have HK := Lib.hid HK'
    clear HK'
    go_wp2_with fail
    go_at_call 24
    refine (cparseA l (by omega) HP.out _).mono ?_
    rintro e Wp ⟨rfl, hb⟩
    have h4 := keepc3 ⟨c0, c1, c2, HK.out⟩ hb
    clear c0 c1 c2 HK hb
    obtain ⟨c0, c1, c2, HK'⟩ := h4
    have HK := Lib.hid HK'
    clear HK'
    have l0 : w.heap.size < Wp.heap.size := World.block_lt_of_cell? _ _ c0
    go_wp2_with fail
    have hv := vat Wp p.k p.x p.s 24
    have h4 := keepc3 ⟨c0, c1, c2, HK.out⟩ ((Below.refl _ _).alloc (Nat.le_refl _) (.cells #[.int .i64 p.k, .float .f64 (fb p.x), .string (bs p.s)] 24))
    clear c0 c1 c2 HK
    obtain ⟨c0, c1, c2, HK'⟩ := h4
    have HK := Lib.hid HK'
    clear HK'
    obtain ⟨c3, c4, c5⟩ := hv
    go_wp2_with (first | (go_at_call 20; ((with_reducible refine (cmayB _ _ _ HM.out _).mono ?_); rintro e W ⟨rfl, hb⟩; have h4 := keepc6 ⟨c0, c1, c2, c3, c4, c5, HK.out⟩ hb; clear c0 c1 c2 c3 c4 c5 HK hb; obtain ⟨c0, c1, c2, c3, c4, c5, HK'⟩ := h4; have HK := Lib.hid HK'; clear HK')) | (go_at_call 11; ((with_reducible refine (first_any _ HK.out.laid).mono ?_); rintro e W ⟨rfl, hb⟩; have h4 := keepc6 ⟨c0, c1, c2, c3, c4, c5, HK.out⟩ hb; clear c0 c1 c2 c3 c4 c5 HK hb; obtain ⟨c0, c1, c2, c3, c4, c5, HK'⟩ := h4; have HK := Lib.hid HK'; clear HK')) | (go_at_call 34; ((with_reducible refine (csame _ _ _ _ _ _ HSB.out _).mono ?_); rintro e W ⟨rfl, hb⟩; have h4 := keepc6 ⟨c0, c1, c2, c3, c4, c5, HK.out⟩ hb; clear c0 c1 c2 c3 c4 c5 HK hb; obtain ⟨c0, c1, c2, c3, c4, c5, HK'⟩ := h4; have HK := Lib.hid HK'; clear HK')))
    go_ret
    exact ⟨rfl, HK.out.below⟩
theorem itoa_len (e : Int) (h : (Lib.decDigits e.natAbs).length ≤ 5) : (Lib.itoa e).length ≤ 6 := by
  rcases Int.lt_or_le e 0 with h0 | h0
  · have : e = -((e.natAbs : Nat) : Int) := by omega
    rw [this, itoa_down _ (by omega), List.length_cons]; omega
  · have : e = ((e.natAbs : Nat) : Int) := by omega
    rw [this, itoa_plain]; omega
theorem print_len (x : UInt64) : (printOf x).length ≤ 100 := by
  rcases parse_ok (parse_print x) with h1 | h1 | h1 | h1 | h1 | ⟨neg, m, e, hr, _, h1, _⟩
  · rw [h1.1]; decide
  · rw [h1.1]; decide
  · rw [h1.1]; decide
  · rw [h1.1]; decide
  · rw [h1.1]; decide
  · rw [h1]
    obtain ⟨a, b⟩ := hr.len
    have := itoa_len e b
    unfold txt
    cases neg <;> simp only [List.length_append, List.length_cons, List.length_nil, if_true, if_false, Bool.false_eq_true] <;> omega
theorem text_len {k : Int} {x : UInt64} {s : List UInt8} (h : mayB k x s = true) : (textOf k x s).length ≤ 10000 := by
  rcases may_kinds h with rfl | rfl | rfl
  · rw [text0 h]; decide
  · rw [text1 h]; have := print_len x; omega
  · rw [text2 h]
    have h1 := quoteTo_len s s.length; have h2 := quoteTo_all s s.length rfl; have h3 := may2_len h
    rw [← h2, List.length_append]; simp; omega
theorem encU_ne (u : Nat) : encU u ≠ [] := by
  obtain ⟨g, c, e, _⟩ := encU_whole u
  rw [e]; simp
theorem putB_ne {k : Int} {x : UInt64} {s : List UInt8} : 0 < (putB k x s).length := by
  unfold putB
  split
  · have := List.length_pos_iff.2 (encU_ne (zz k)); rw [List.length_append]; change 0 < (intB k).length at this; omega
  · exact List.length_pos_iff.2 (encU_ne (zz 0))
theorem cget (p : Nat) (a : Option Addr) (cap : Nat) (l : List UInt8) (hl : l.length ≤ 1000000) {k : Int} {x : UInt64} {s : List UInt8} {n : Nat} (hg : getG l = ⟨k, x, s, 0, 0, n⟩) (w : World) (h : Rr w p a cap l 0 0 0) (HBL : ∀ c, blk a = some c → c < w.heap.size) :
    Calls Tryd.prog 39 #[.pointer (some ⟨p, 0, none⟩)] w fun e w' => e = .returned (.agg #[.int .i64 k, .float .f64 (fb x), .string (bs s)]) ∧ RDone w p a cap l n 0 0 w' := by
  have := get_any p a cap l hl w h HBL
  rw [hg] at this; exact this
theorem cend (p : Nat) (a : Option Addr) (cap : Nat) (l : List UInt8) (hl : l.length ≤ 1000000) (w : World) (h : Rr w p a cap l l.length 0 0) :
    Calls Tryd.prog 41 #[.pointer (some ⟨p, 0, none⟩)] w fun e w' => e = .returned (.tuple #[.int .i64 0, .int .i64 0]) ∧ Below w.heap.size w w' := by
  have := end_any p a cap l hl l.length 0 0 w h (fun _ => rfl)
  rw [if_neg (fun h => Nat.lt_irrefl _ h.2)] at this; exact this
set_option maxHeartbeats 4000000 in
theorem back_yes (k : Int) (x : UInt64) (s : List UInt8) (l : List UInt8) (w : World) (hT : Laid w) (HS : Hid (decide (s.length ≤ 2000) = true)) (hl : l.length ≤ 2000) (HM : Hid (mayB k x s = true)) : Calls Tryd.prog 10 #[VA k x s, .string (bs l)] w fun e w' => e = .returned (.bool true) ∧ Below w.heap.size w w' := by
  unfold VA
  have HK : Hid (Kp w (w.alloc (.cells #[.int .i64 k, .float .f64 (fb x), .string (bs s)] 24))) := (Kp.start hT).alloc _
  clear hT
  obtain ⟨c0, c1, c2⟩ := vat w k x s 24
  have hsz : (bs l).size = l.length := bs_size l
  have HU : Hid (unqV (quoteOf l) = .tuple #[.string (bs l), .int .i64 0]) := unqV_some l
  have HQL := Lib.hid (quote_bd l hl)
  obtain ⟨p, hp⟩ : ∃ p, parseD l = p := ⟨_, rfl⟩
  have HP := Lib.hid hp
  have HPT : Hid (p.e = 0 → textOf p.k p.x p.s = l) := fun h => by rw [← HP.out] at h ⊢; exact parse_text h
  clear hp
  have HSB : Hid (sameB k x s k x s = true) := by have := same_cmp HM.out HM.out; rw [cmpV_self HM.out] at this; exact this
  have hs2 : s.length ≤ 2000 := of_decide_eq_true HS.out
  have HGP : Hid (getG (putB k x s) = ⟨k, x, s, 0, 0, (putB k x s).length⟩) := get_put HM.out
  have HPL : Hid ((putB k x s).length ≤ 10000) := putB_len k x s hs2
  have HPN : Hid (0 < (putB k x s).length) := putB_ne
  have HTP0 : Hid (parseD (textOf k x s) = ⟨k, x, s, 0⟩) := text_parse HM.out
  have htl := text_len HM.out
  obtain ⟨t, ht⟩ : ∃ t, textOf k x s = t := ⟨_, rfl⟩
  have HT := Lib.hid ht
  rw [ht] at HTP0 htl
  have HTP := HTP0
  clear ht HTP0
  cases hpe : (p.e == 0) with
  | true =>
    have HTX : Hid (textOf p.k p.x p.s = l) := HPT.out (eq_of_beq hpe)
    go_enter Tryd.func10, Tryd.ntmps10
    go_wp2_with (first | (go_at_call 11; ((with_reducible refine (first_any _ HK.out.laid).mono ?_); rintro e W ⟨rfl, hb⟩; have h4 := keepc3 ⟨c0, c1, c2, HK.out⟩ hb; clear c0 c1 c2 HK hb; obtain ⟨c0, c1, c2, HK'⟩ := h4; have HK := Lib.hid HK'; clear HK')) | (go_at_call 12; ((with_reducible refine (csmall HS.out _).mono ?_); rintro e W ⟨rfl, hb⟩; have h4 := keepc3 ⟨c0, c1, c2, HK.out⟩ hb; clear c0 c1 c2 HK hb; obtain ⟨c0, c1, c2, HK'⟩ := h4; have HK := Lib.hid HK'; clear HK')))
    go_at_call 26
    refine (cquote l (by omega) _).mono ?_
    rintro e W ⟨rfl, hb⟩
    have h4 := keepc3 ⟨c0, c1, c2, HK.out⟩ hb
    clear c0 c1 c2 HK hb
    obtain ⟨c0, c1, c2, HK'⟩ := h4
    have HK := Lib.hid HK'
    clear HK'
    go_wp2_with fail
    go_at_call 22
    refine (cunq HQL.out HU.out _).mono ?_
    rintro e W ⟨rfl, hb⟩
    have h4 := keepc3 ⟨c0, c1, c2, HK.out⟩ hb
    clear c0 c1 c2 HK hb
    obtain ⟨c0, c1, c2, HK'⟩ := h4
    have HK := Lib.hid HK'
    clear HK'
    go_wp2_with fail
    go_at_call 24
    refine (cparseA l (by omega) HP.out _).mono ?_
    rintro e Wp ⟨rfl, hb⟩
    have h4 := keepc3 ⟨c0, c1, c2, HK.out⟩ hb
    clear c0 c1 c2 HK hb
    obtain ⟨c0, c1, c2, HK'⟩ := h4
    have HK := Lib.hid HK'
    clear HK'
    have l0 : w.heap.size < Wp.heap.size := World.block_lt_of_cell? _ _ c0
    go_wp2_with fail
    go_at_call 28
    refine (cprintA _ _ _ HTX.out _ (HK.out.alloc _).laid).mono ?_
    rintro e Wq ⟨rfl, hb⟩
    have h4 := keepca3 ⟨c0, c1, c2, HK.out⟩ hb
    have hv := vat Wp p.k p.x p.s 24
    have d0 := keep1 hv.1 hb
    have d1 := keep1 hv.2.1 hb
    have d2 := keep1 hv.2.2 hb
    clear hv
    clear c0 c1 c2 HK hb
    obtain ⟨c0, c1, c2, HK'⟩ := h4
    have HK := Lib.hid HK'
    clear HK'
    have c3 := d0
    have c4 := d1
    have c5 := d2
    clear d0 d1 d2
    go_wp2_with (first | (go_at_call 20; ((with_reducible refine (cmayB _ _ _ HM.out _).mono ?_); rintro e W ⟨rfl, hb⟩; have h4 := keepc6 ⟨c0, c1, c2, c3, c4, c5, HK.out⟩ hb; clear c0 c1 c2 c3 c4 c5 HK hb; obtain ⟨c0, c1, c2, c3, c4, c5, HK'⟩ := h4; have HK := Lib.hid HK'; clear HK')))
    go_at_call 28
    refine (cprintA _ _ _ HT.out _ HK.out.laid).mono ?_
    rintro e W ⟨rfl, hb⟩
    have h4 := keepc6 ⟨c0, c1, c2, c3, c4, c5, HK.out⟩ hb
    clear c0 c1 c2 c3 c4 c5 HK hb
    obtain ⟨c0, c1, c2, c3, c4, c5, HK'⟩ := h4
    have HK := Lib.hid HK'
    clear HK'
    go_wp2_with fail
    go_at_call 24
    refine (cparseA t (by omega) HTP.out _).mono ?_
    rintro e Wy ⟨rfl, hb⟩
    have h4 := keepc6 ⟨c0, c1, c2, c3, c4, c5, HK.out⟩ hb
    clear c0 c1 c2 c3 c4 c5 HK hb
    obtain ⟨c0, c1, c2, c3, c4, c5, HK'⟩ := h4
    have HK := Lib.hid HK'
    clear HK'
    go_wp2_with fail
    have hv := vat Wy k x s 24
    have h4 := keepc6 ⟨c0, c1, c2, c3, c4, c5, HK.out⟩ ((Below.refl _ _).alloc (Nat.le_refl _) (.cells #[.int .i64 k, .float .f64 (fb x), .string (bs s)] 24))
    clear c0 c1 c2 c3 c4 c5 HK
    obtain ⟨c0, c1, c2, c3, c4, c5, HK'⟩ := h4
    have HK := Lib.hid HK'
    clear HK'
    obtain ⟨c6, c7, c8⟩ := hv
    generalize Wy.alloc (.cells #[.int .i64 k, .float .f64 (fb x), .string (bs s)] 24) = W9 at *
    have H9 := Lib.hid (And.intro c0 (And.intro c1 (And.intro c2 (And.intro c3 (And.intro c4 (And.intro c5 (And.intro c6 (And.intro c7 (And.intro c8 HK.out)))))))))
    have l0 : w.heap.size < W9.heap.size := World.block_lt_of_cell? _ _ c0
    have l1 : Wy.heap.size < W9.heap.size := World.block_lt_of_cell? _ _ c6
    go_at_call 36
    refine (newWriter_any _).mono ?_
    rintro e w' ⟨rfl, rfl⟩
    go_wp2_with fail
    go_at_call 13
    refine (cval_self _ _ _ _).mono ?_
    rintro e W10 ⟨rfl, hb10⟩
    have HW10 := Lib.hid ((newWriter_wr W9).below hb10)
    have HB10 : Hid (Below W9.heap.size W9 W10) := ((Below.refl _ _).alloc (Nat.le_refl _) _).trans (hb10.mono (by simp))
    clear c0 c1 c2 c3 c4 c5 c6 c7 c8 HK l0 l1 hb10
    obtain ⟨c0, c1, c2, _⟩ := keepc9 H9.out HB10.out
    go_wp2_with fail
    go_at_call 38
    refine (put_any k x s hs2 _ _ [] (by simp) _ HW10.out).mono ?_
    rintro e W11 ⟨rfl, v2, hw2, hf2⟩
    rw [List.nil_append] at hw2
    have HW11 := Lib.hid hw2
    have HB11 : Hid (Below W9.heap.size W9 W11) := HB10.out.trans (hf2.below HB10.out.size (fun k hk h => by rcases h with h | h; omega; cases h))
    clear hw2 hf2 c0 c1 c2
    obtain ⟨B, hB⟩ : ∃ B, putB k x s = B := ⟨_, rfl⟩
    rw [hB] at HW11 HGP HPL HPN
    clear hB
    go_wp2_with fail
    go_at_call 44
    refine (wBytes_any _ v2 B (by have := HPL.out; omega) _ HW11.out).mono ?_
    rintro e W12 ⟨v3, rfl, hown3, hb12⟩
    obtain ⟨a3, cap3, rfl, hr3⟩ := hown3.rd
    have HR3 := Lib.hid hr3
    have HB12 : Hid (Below W9.heap.size W9 W12) := HB11.out.trans (hb12.mono HB11.out.size)
    clear hown3 hr3 hb12
    go_wp2_with fail
    go_at_call 37
    refine (newReader_any a3 cap3 B (by have := HPL.out; omega) _ HR3.out).mono ?_
    rintro e W13 ⟨pr, a, cap, rfl, hrr, hb13, hpr, hblk⟩
    have HRR := Lib.hid hrr
    have HBL : Hid (∀ c, blk a = some c → c < W13.heap.size) := fun c hc => blk_lt hrr.2.2.2.2.2.2.2.1 HPN.out hc
    have HB13 : Hid (Below W9.heap.size W9 W13) := HB12.out.trans (hb13.mono HB12.out.size)
    have HPR : Hid (W9.heap.size ≤ pr) := Nat.le_trans HB12.out.size hpr
    clear hrr hb13 hblk hpr
    go_wp2_with fail
    go_at_call 39
    refine (cget pr a cap B (by have := HPL.out; omega) HGP.out _ HRR.out HBL.out).mono ?_
    rintro e W14 ⟨rfl, hd14⟩
    have HD14 := Lib.hid hd14
    have HB14 : Hid (Below W9.heap.size W9 W14) := HB13.out.trans (hd14.2.below HB13.out.size (fun k hk h => by have h2 : k = pr := h; have := HPR.out; omega))
    clear hd14
    obtain ⟨c0, c1, c2, c3, c4, c5, c6, c7, c8, HK'⟩ := keepc9 H9.out (HB14.out.alloc HB14.out.size (.cells #[.int .i64 k, .float .f64 (fb x), .string (bs s)] 24))
    have HK := Lib.hid HK'
    clear HK'
    obtain ⟨c9, c10, c11⟩ := vat W14 k x s 24
    go_wp2_with fail
    go_at_call 41
    refine (cend pr a cap B (by have := HPL.out; omega) _ (HD14.out.1.below ((Below.refl _ _).alloc (Nat.le_refl _) _))).mono ?_
    rintro e W15 ⟨rfl, hb⟩
    have h4 := keepc12 ⟨c0, c1, c2, c3, c4, c5, c6, c7, c8, c9, c10, c11, HK.out⟩ hb
    clear c0 c1 c2 c3 c4 c5 c6 c7 c8 c9 c10 c11 HK hb
    obtain ⟨c0, c1, c2, c3, c4, c5, c6, c7, c8, c9, c10, c11, HK'⟩ := h4
    have HK := Lib.hid HK'
    clear HK'
    go_wp2_with (first | (go_at_call 11; ((with_reducible refine (first_any _ HK.out.laid).mono ?_); rintro e W ⟨rfl, hb⟩; have h4 := keepc12 ⟨c0, c1, c2, c3, c4, c5, c6, c7, c8, c9, c10, c11, HK.out⟩ hb; clear c0 c1 c2 c3 c4 c5 c6 c7 c8 c9 c10 c11 HK hb; obtain ⟨c0, c1, c2, c3, c4, c5, c6, c7, c8, c9, c10, c11, HK'⟩ := h4; have HK := Lib.hid HK'; clear HK')) | (go_at_call 13; ((with_reducible refine (cval_self _ _ _ _).mono ?_); rintro e W ⟨rfl, hb⟩; have h4 := keepc12 ⟨c0, c1, c2, c3, c4, c5, c6, c7, c8, c9, c10, c11, HK.out⟩ hb; clear c0 c1 c2 c3 c4 c5 c6 c7 c8 c9 c10 c11 HK hb; obtain ⟨c0, c1, c2, c3, c4, c5, c6, c7, c8, c9, c10, c11, HK'⟩ := h4; have HK := Lib.hid HK'; clear HK')) | (go_at_call 34; ((with_reducible refine (csame _ _ _ _ _ _ HSB.out _).mono ?_); rintro e W ⟨rfl, hb⟩; have h4 := keepc12 ⟨c0, c1, c2, c3, c4, c5, c6, c7, c8, c9, c10, c11, HK.out⟩ hb; clear c0 c1 c2 c3 c4 c5 c6 c7 c8 c9 c10 c11 HK hb; obtain ⟨c0, c1, c2, c3, c4, c5, c6, c7, c8, c9, c10, c11, HK'⟩ := h4; have HK := Lib.hid HK'; clear HK')))
    go_ret
    exact ⟨rfl, HK.out.below⟩
  | false =>
    go_enter Tryd.func10, Tryd.ntmps10
    go_wp2_with (first | (go_at_call 11; ((with_reducible refine (first_any _ HK.out.laid).mono ?_); rintro e W ⟨rfl, hb⟩; have h4 := keepc3 ⟨c0, c1, c2, HK.out⟩ hb; clear c0 c1 c2 HK hb; obtain ⟨c0, c1, c2, HK'⟩ := h4; have HK := Lib.hid HK'; clear HK')) | (go_at_call 12; ((with_reducible refine (csmall HS.out _).mono ?_); rintro e W ⟨rfl, hb⟩; have h4 := keepc3 ⟨c0, c1, c2, HK.out⟩ hb; clear c0 c1 c2 HK hb; obtain ⟨c0, c1, c2, HK'⟩ := h4; have HK := Lib.hid HK'; clear HK')))
    go_at_call 26
    refine (cquote l (by omega) _).mono ?_
    rintro e W ⟨rfl, hb⟩
    have h4 := keepc3 ⟨c0, c1, c2, HK.out⟩ hb
    clear c0 c1 c2 HK hb
    obtain ⟨c0, c1, c2, HK'⟩ := h4
    have HK := Lib.hid HK'
    clear HK'
    go_wp2_with fail
    go_at_call 22
    refine (cunq HQL.out HU.out _).mono ?_
    rintro e W ⟨rfl, hb⟩
    have h4 := keepc3 ⟨c0, c1, c2, HK.out⟩ hb
    clear c0 c1 c2 HK hb
    obtain ⟨c0, c1, c2, HK'⟩ := h4
    have HK := Lib.hid HK'
    clear HK'
    go_wp2_with fail
    go_at_call 24
    refine (cparseA l (by omega) HP.out _).mono ?_
    rintro e Wp ⟨rfl, hb⟩
    have h4 := keepc3 ⟨c0, c1, c2, HK.out⟩ hb
    clear c0 c1 c2 HK hb
    obtain ⟨c0, c1, c2, HK'⟩ := h4
    have HK := Lib.hid HK'
    clear HK'
    have l0 : w.heap.size < Wp.heap.size := World.block_lt_of_cell? _ _ c0
    go_wp2_with fail
    have hv := vat Wp p.k p.x p.s 24
    have h4 := keepc3 ⟨c0, c1, c2, HK.out⟩ ((Below.refl _ _).alloc (Nat.le_refl _) (.cells #[.int .i64 p.k, .float .f64 (fb p.x), .string (bs p.s)] 24))
    clear c0 c1 c2 HK
    obtain ⟨c0, c1, c2, HK'⟩ := h4
    have HK := Lib.hid HK'
    clear HK'
    obtain ⟨c3, c4, c5⟩ := hv
    go_wp2_with (first | (go_at_call 20; ((with_reducible refine (cmayB _ _ _ HM.out _).mono ?_); rintro e W ⟨rfl, hb⟩; have h4 := keepc6 ⟨c0, c1, c2, c3, c4, c5, HK.out⟩ hb; clear c0 c1 c2 c3 c4 c5 HK hb; obtain ⟨c0, c1, c2, c3, c4, c5, HK'⟩ := h4; have HK := Lib.hid HK'; clear HK')))
    go_at_call 28
    refine (cprintA _ _ _ HT.out _ HK.out.laid).mono ?_
    rintro e W ⟨rfl, hb⟩
    have h4 := keepc6 ⟨c0, c1, c2, c3, c4, c5, HK.out⟩ hb
    clear c0 c1 c2 c3 c4 c5 HK hb
    obtain ⟨c0, c1, c2, c3, c4, c5, HK'⟩ := h4
    have HK := Lib.hid HK'
    clear HK'
    go_wp2_with fail
    go_at_call 24
    refine (cparseA t (by omega) HTP.out _).mono ?_
    rintro e Wy ⟨rfl, hb⟩
    have h4 := keepc6 ⟨c0, c1, c2, c3, c4, c5, HK.out⟩ hb
    clear c0 c1 c2 c3 c4 c5 HK hb
    obtain ⟨c0, c1, c2, c3, c4, c5, HK'⟩ := h4
    have HK := Lib.hid HK'
    clear HK'
    go_wp2_with fail
    have hv := vat Wy k x s 24
    have h4 := keepc6 ⟨c0, c1, c2, c3, c4, c5, HK.out⟩ ((Below.refl _ _).alloc (Nat.le_refl _) (.cells #[.int .i64 k, .float .f64 (fb x), .string (bs s)] 24))
    clear c0 c1 c2 c3 c4 c5 HK
    obtain ⟨c0, c1, c2, c3, c4, c5, HK'⟩ := h4
    have HK := Lib.hid HK'
    clear HK'
    obtain ⟨c6, c7, c8⟩ := hv
    generalize Wy.alloc (.cells #[.int .i64 k, .float .f64 (fb x), .string (bs s)] 24) = W9 at *
    have H9 := Lib.hid (And.intro c0 (And.intro c1 (And.intro c2 (And.intro c3 (And.intro c4 (And.intro c5 (And.intro c6 (And.intro c7 (And.intro c8 HK.out)))))))))
    have l0 : w.heap.size < W9.heap.size := World.block_lt_of_cell? _ _ c0
    have l1 : Wy.heap.size < W9.heap.size := World.block_lt_of_cell? _ _ c6
    go_at_call 36
    refine (newWriter_any _).mono ?_
    rintro e w' ⟨rfl, rfl⟩
    go_wp2_with fail
    go_at_call 13
    refine (cval_self _ _ _ _).mono ?_
    rintro e W10 ⟨rfl, hb10⟩
    have HW10 := Lib.hid ((newWriter_wr W9).below hb10)
    have HB10 : Hid (Below W9.heap.size W9 W10) := ((Below.refl _ _).alloc (Nat.le_refl _) _).trans (hb10.mono (by simp))
    clear c0 c1 c2 c3 c4 c5 c6 c7 c8 HK l0 l1 hb10
    obtain ⟨c0, c1, c2, _⟩ := keepc9 H9.out HB10.out
    go_wp2_with fail
    go_at_call 38
    refine (put_any k x s hs2 _ _ [] (by simp) _ HW10.out).mono ?_
    rintro e W11 ⟨rfl, v2, hw2, hf2⟩
    rw [List.nil_append] at hw2
    have HW11 := Lib.hid hw2
    have HB11 : Hid (Below W9.heap.size W9 W11) := HB10.out.trans (hf2.below HB10.out.size (fun k hk h => by rcases h with h | h; omega; cases h))
    clear hw2 hf2 c0 c1 c2
    obtain ⟨B, hB⟩ : ∃ B, putB k x s = B := ⟨_, rfl⟩
    rw [hB] at HW11 HGP HPL HPN
    clear hB
    go_wp2_with fail
    go_at_call 44
    refine (wBytes_any _ v2 B (by have := HPL.out; omega) _ HW11.out).mono ?_
    rintro e W12 ⟨v3, rfl, hown3, hb12⟩
    obtain ⟨a3, cap3, rfl, hr3⟩ := hown3.rd
    have HR3 := Lib.hid hr3
    have HB12 : Hid (Below W9.heap.size W9 W12) := HB11.out.trans (hb12.mono HB11.out.size)
    clear hown3 hr3 hb12
    go_wp2_with fail
    go_at_call 37
    refine (newReader_any a3 cap3 B (by have := HPL.out; omega) _ HR3.out).mono ?_
    rintro e W13 ⟨pr, a, cap, rfl, hrr, hb13, hpr, hblk⟩
    have HRR := Lib.hid hrr
    have HBL : Hid (∀ c, blk a = some c → c < W13.heap.size) := fun c hc => blk_lt hrr.2.2.2.2.2.2.2.1 HPN.out hc
    have HB13 : Hid (Below W9.heap.size W9 W13) := HB12.out.trans (hb13.mono HB12.out.size)
    have HPR : Hid (W9.heap.size ≤ pr) := Nat.le_trans HB12.out.size hpr
    clear hrr hb13 hblk hpr
    go_wp2_with fail
    go_at_call 39
    refine (cget pr a cap B (by have := HPL.out; omega) HGP.out _ HRR.out HBL.out).mono ?_
    rintro e W14 ⟨rfl, hd14⟩
    have HD14 := Lib.hid hd14
    have HB14 : Hid (Below W9.heap.size W9 W14) := HB13.out.trans (hd14.2.below HB13.out.size (fun k hk h => by have h2 : k = pr := h; have := HPR.out; omega))
    clear hd14
    obtain ⟨c0, c1, c2, c3, c4, c5, c6, c7, c8, HK'⟩ := keepc9 H9.out (HB14.out.alloc HB14.out.size (.cells #[.int .i64 k, .float .f64 (fb x), .string (bs s)] 24))
    have HK := Lib.hid HK'
    clear HK'
    obtain ⟨c9, c10, c11⟩ := vat W14 k x s 24
    go_wp2_with fail
    go_at_call 41
    refine (cend pr a cap B (by have := HPL.out; omega) _ (HD14.out.1.below ((Below.refl _ _).alloc (Nat.le_refl _) _))).mono ?_
    rintro e W15 ⟨rfl, hb⟩
    have h4 := keepc12 ⟨c0, c1, c2, c3, c4, c5, c6, c7, c8, c9, c10, c11, HK.out⟩ hb
    clear c0 c1 c2 c3 c4 c5 c6 c7 c8 c9 c10 c11 HK hb
    obtain ⟨c0, c1, c2, c3, c4, c5, c6, c7, c8, c9, c10, c11, HK'⟩ := h4
    have HK := Lib.hid HK'
    clear HK'
    go_wp2_with (first | (go_at_call 11; ((with_reducible refine (first_any _ HK.out.laid).mono ?_); rintro e W ⟨rfl, hb⟩; have h4 := keepc12 ⟨c0, c1, c2, c3, c4, c5, c6, c7, c8, c9, c10, c11, HK.out⟩ hb; clear c0 c1 c2 c3 c4 c5 c6 c7 c8 c9 c10 c11 HK hb; obtain ⟨c0, c1, c2, c3, c4, c5, c6, c7, c8, c9, c10, c11, HK'⟩ := h4; have HK := Lib.hid HK'; clear HK')) | (go_at_call 13; ((with_reducible refine (cval_self _ _ _ _).mono ?_); rintro e W ⟨rfl, hb⟩; have h4 := keepc12 ⟨c0, c1, c2, c3, c4, c5, c6, c7, c8, c9, c10, c11, HK.out⟩ hb; clear c0 c1 c2 c3 c4 c5 c6 c7 c8 c9 c10 c11 HK hb; obtain ⟨c0, c1, c2, c3, c4, c5, c6, c7, c8, c9, c10, c11, HK'⟩ := h4; have HK := Lib.hid HK'; clear HK')) | (go_at_call 34; ((with_reducible refine (csame _ _ _ _ _ _ HSB.out _).mono ?_); rintro e W ⟨rfl, hb⟩; have h4 := keepc12 ⟨c0, c1, c2, c3, c4, c5, c6, c7, c8, c9, c10, c11, HK.out⟩ hb; clear c0 c1 c2 c3 c4 c5 c6 c7 c8 c9 c10 c11 HK hb; obtain ⟨c0, c1, c2, c3, c4, c5, c6, c7, c8, c9, c10, c11, HK'⟩ := h4; have HK := Lib.hid HK'; clear HK')))
    go_ret
    exact ⟨rfl, HK.out.below⟩
theorem back_all (k : Int) (x : UInt64) (s : List UInt8) (l : List UInt8) (w : World) (hT : Laid w) : Calls Tryd.prog 10 #[VA k x s, .string (bs l)] w fun e w' => e = .returned (.bool true) ∧ Below w.heap.size w w' := by
  cases h1 : decide (s.length ≤ 2000) with
  | false => exact back_l1 _ _ _ _ w hT h1
  | true =>
  by_cases h2 : l.length ≤ 2000
  · cases h3 : mayB k x s with
    | false => exact back_no _ _ _ _ w hT h1 h2 h3
    | true => exact back_yes _ _ _ _ w hT h1 h2 h3
  · exact back_l2 _ _ _ _ w hT h1 h2
end Go.Proofs.YtecgjhjglklcnaaDoor
