/-
  The walks of Print and Parse of values, and the reference's. Written by a program (d12gen.py).
-/
import Derived.Test.YtalpbphfmelhhaaGreatDoorD11
namespace Go.Proofs.YtalpbphfmelhhaaGreatDoor
set_option maxRecDepth 100000
open Go.RowKit Go.Shelf Go.Sort
attribute [local go_sem] bs_size bs_get bs_toList frombits tobits run_store_float

theorem below1 {w w1 : World} {o1 : Obj} (hb : Below (w.alloc o1).heap.size (w.alloc o1) w1) : Below w.heap.size w w1 ∧ w.heap.size < w1.heap.size :=
  ⟨((Below.refl _ _).alloc (Nat.le_refl _) _).trans (hb.mono (by simp)), by have := hb.size; simp at this; omega⟩
/-- A value's text. -/
def textOf (k : Int) (x : UInt64) (s : List UInt8) : List UInt8 :=
  if mayB k x s then (if k = 1 then printOf x else if k = 2 then quoteOf s else [110, 111, 110, 101]) else [63]
theorem may_kinds {k : Int} {x : UInt64} {s : List UInt8} (h : mayB k x s = true) : k = 0 ∨ k = 1 ∨ k = 2 := by
  unfold mayB at h
  split at h
  · exact .inl ‹_›
  · split at h
    · exact .inr (.inl ‹_›)
    · split at h
      · exact .inr (.inr ‹_›)
      · cases h
theorem may2_len {x : UInt64} {s : List UInt8} (h : mayB 2 x s = true) : s.length ≤ 64 := by
  unfold mayB at h
  rw [if_neg (by decide), if_neg (by decide), if_pos rfl, Bool.and_eq_true, decide_eq_true_eq] at h
  exact h.2
set_option maxHeartbeats 400000 in
theorem printV_any (k : Int) (x : UInt64) (s : List UInt8) (w : World) (hT : Laid w) : Calls Tryz.prog 62 #[VA k x s] w fun e w' => e = .returned (.string (bs (textOf k x s))) ∧ Below w.heap.size w w' := by
  have HT := Lib.hid hT
  clear hT
  have HM : Hid (∀ W, Calls Tryz.prog 69 #[.agg #[.int .i64 k, .float .f64 (fb x), .string (bs s)]] W fun e w' => e = .returned (.bool (mayB k x s)) ∧ Below W.heap.size W w') := fun W => may_any k x s W
  have HV : Hid (textOf k x s = if mayB k x s then (if k = 1 then printOf x else if k = 2 then quoteOf s else [110, 111, 110, 101]) else [63]) := rfl
  unfold VA
  cases hm : mayB k x s with
  | false =>
    have HR : Hid (textOf k x s = [63]) := by rw [HV.out, hm]; exact rfl
    rw [hm] at HM
    rw [HR.out]
    clear hm HV HR
    go_enter Tryz.func62, Tryz.ntmps62
    go_wp2_with (go_at_call 69; ((with_reducible refine (HM.out _).mono ?_); rintro e w1 ⟨rfl, hb1⟩; obtain ⟨hbw, z0⟩ := below1 hb1; obtain ⟨hc, hf⟩ := bcell hb1; clear hb1))
    go_ret
    exact ⟨rfl, hbw⟩
  | true =>
    rw [hm] at HM
    have HK := may_kinds hm
    rcases HK with rfl | rfl | rfl
    · have HR : Hid (textOf 0 x s = [110, 111, 110, 101]) := by rw [HV.out, hm]; exact rfl
      rw [HR.out]
      clear hm HV HR
      go_enter Tryz.func62, Tryz.ntmps62
      go_wp2_with (go_at_call 69; ((with_reducible refine (HM.out _).mono ?_); rintro e w1 ⟨rfl, hb1⟩; obtain ⟨hbw, z0⟩ := below1 hb1; obtain ⟨hc, hf⟩ := bcell hb1; clear hb1))
      go_ret
      exact ⟨rfl, hbw⟩
    · have HR : Hid (textOf 1 x s = printOf x) := by rw [HV.out, hm]; exact rfl
      rw [HR.out]
      clear hm HV HR
      go_enter Tryz.func62, Tryz.ntmps62
      go_wp2_with (first | (go_at_call 69; ((with_reducible refine (HM.out _).mono ?_); rintro e w1 ⟨rfl, hb1⟩; obtain ⟨hbw, z0⟩ := below1 hb1; obtain ⟨hc, hf⟩ := bcell hb1; clear hb1)) | (go_at_call 94; ((with_reducible refine (print_any x _ (HT.out.below hbw)).mono ?_); rintro e w2 ⟨rfl, hb2⟩)))
      go_ret
      exact ⟨rfl, hbw.trans (hb2.mono (by omega))⟩
    · have HR : Hid (textOf 2 x s = quoteOf s) := by rw [HV.out, hm]; exact rfl
      have hl := may2_len hm
      rw [HR.out]
      clear hm HV HR
      go_enter Tryz.func62, Tryz.ntmps62
      go_wp2_with (first | (go_at_call 69; ((with_reducible refine (HM.out _).mono ?_); rintro e w1 ⟨rfl, hb1⟩; obtain ⟨hbw, z0⟩ := below1 hb1; obtain ⟨hc, hf⟩ := bcell hb1; clear hb1)) | (go_at_call 61; ((with_reducible refine (quote_any s (by omega) _).mono ?_); rintro e w2 ⟨rfl, hb2⟩)))
      go_ret
      exact ⟨rfl, hbw.trans (hb2.mono (by omega))⟩
/-- What Parse of values tells. -/
structure PV where
  k : Int
  x : UInt64
  s : List UInt8
  e : Int
noncomputable def parseD (l : List UInt8) : PV :=
  if l.length ≠ 0 ∧ bAt l 0 = 34 then
    (match unqOf l with | none => ⟨0, 0, [], 4⟩ | some t => if 64 < t.length then ⟨0, 0, [], 2⟩ else ⟨2, 0, t, 0⟩)
  else if l = [110, 111, 110, 101] then ⟨0, 0, [], 0⟩
  else if (parseOf l).2 = 0 then ⟨1, canon (parseOf l).1, [], 0⟩ else ⟨0, 0, [], (parseOf l).2⟩
def PV.val (p : PV) : Value := .tuple #[VA p.k p.x p.s, .int .i64 p.e]
theorem words_long {s : List UInt8} (h : ¬ 64 < s.length) : wordsK s = 2 ∧ wordsS s = s := ⟨if_neg h, if_neg h⟩
theorem unqV_cases (l : List UInt8) : (unqOf l = none ∧ unqV l = .tuple #[.string (bs []), .int .i64 4]) ∨ ∃ t, unqOf l = some t ∧ l = quoteOf t ∧ unqV l = .tuple #[.string (bs t), .int .i64 0] := by
  cases h : unqOf l with
  | none => exact .inl ⟨rfl, by unfold unqV; rw [h]⟩
  | some t =>
    refine .inr ⟨t, rfl, ?_, by unfold unqV; rw [h]⟩
    unfold unqOf at h
    split at h
    · rename_i hx
      have := Classical.choose_spec hx
      rw [Option.some.inj h] at this; exact this
    · cases h
theorem quoteOf_ge (t : List UInt8) : t.length ≤ (quoteOf t).length := by
  have : ∀ l : List UInt8, l.length ≤ (l.flatMap quoteC).length := by
    intro l
    induction l with
    | nil => simp
    | cons c t ih =>
      have : 1 ≤ (quoteC c).length := by unfold quoteC; split <;> simp
      rw [List.flatMap_cons, List.length_append, List.length_cons]; omega
  have := this t
  unfold quoteOf; simp only [List.length_cons, List.length_append]; omega
set_option maxHeartbeats 1000000 in
theorem parseV_any (l : List UInt8) (hl : l.length ≤ 100000) (w : World) : Calls Tryz.prog 88 #[.string (bs l)] w fun e w' => e = .returned (parseD l).val ∧ Below w.heap.size w w' := by
  have HV : Hid (parseD l = if l.length ≠ 0 ∧ bAt l 0 = 34 then (match unqOf l with | none => ⟨0, 0, [], 4⟩ | some t => if 64 < t.length then ⟨0, 0, [], 2⟩ else ⟨2, 0, t, 0⟩) else if l = [110, 111, 110, 101] then ⟨0, 0, [], 0⟩ else if (parseOf l).2 = 0 then ⟨1, canon (parseOf l).1, [], 0⟩ else ⟨0, 0, [], (parseOf l).2⟩) := rfl
  have hsz : (bs l).size = l.length := bs_size l
  by_cases hq : l.length ≠ 0 ∧ bAt l 0 = 34
  · have HV2 := Lib.hid (HV.out.trans (if_pos hq))
    clear HV
    have h0 : l ≠ [] := by intro h; rw [h] at hq; exact hq.1 rfl
    have e0 : (l == []) = false := by rw [beq_eq_false_iff_ne]; exact h0
    have n0 : 0 < l.length := by have := hq.1; omega
    have hb0 : bAt l 0 = 34 := hq.2
    clear hq h0
    have HU : Hid (∀ W, Calls Tryz.prog 89 #[.string (bs l)] W fun e w' => e = .returned (unqV l) ∧ Below W.heap.size W w') := fun W => unquote_any l (by omega) W
    have HZ := unqV_cases l
    rcases HZ with ⟨hu, hv⟩ | ⟨t, hu, hlt, hv⟩
    · rw [hv] at HU
      have HR : Hid (parseD l = ⟨0, 0, [], 4⟩) := by rw [HV2.out, hu]; exact rfl
      rw [HR.out]
      clear HV2 HR hu hv
      go_enter Tryz.func88, Tryz.ntmps88
      go_wp2_with (go_at_call 89; ((with_reducible refine (HU.out _).mono ?_); rintro e w1 ⟨rfl, hb1⟩; obtain ⟨hbw, z0⟩ := below1 hb1; obtain ⟨hc, hf⟩ := bcell hb1; clear hb1))
      exact bodyPost_ret (v := .tuple #[VA 0 0 [], .int .i64 4]) (by simp [results, Tryz.results88, go_sem, VA, hc] <;> first | rfl | exact ⟨rfl, rfl⟩ | exact ⟨rfl, rfl, rfl⟩ | skip) rfl ⟨rfl, (((hbw.setCell (by first | (simp; done) | (simp; omega)) _).setCell (by first | (simp; done) | (simp; omega)) _).setCell (by first | (simp; done) | (simp; omega)) _)⟩
    · rw [hv] at HU
      have htl : t.length ≤ 100000 := by have := quoteOf_ge t; rw [← hlt] at this; omega
      clear hv hlt
      by_cases h64 : 64 < t.length
      · have HR : Hid (parseD l = ⟨0, 0, [], 2⟩) := by rw [HV2.out, hu]; exact if_pos h64
        rw [HR.out]
        clear HV2 HR hu
        go_enter Tryz.func88, Tryz.ntmps88
        go_wp2_with (go_at_call 89; ((with_reducible refine (HU.out _).mono ?_); rintro e w1 ⟨rfl, hb1⟩; obtain ⟨hbw, z0⟩ := below1 hb1; obtain ⟨hc, hf⟩ := bcell hb1; clear hb1))
        exact bodyPost_ret (v := .tuple #[VA 0 0 [], .int .i64 2]) (by simp [results, Tryz.results88, go_sem, VA, hc] <;> first | rfl | exact ⟨rfl, rfl⟩ | exact ⟨rfl, rfl, rfl⟩ | skip) rfl ⟨rfl, (((hbw.setCell (by first | (simp; done) | (simp; omega)) _).setCell (by first | (simp; done) | (simp; omega)) _).setCell (by first | (simp; done) | (simp; omega)) _)⟩
      · have HR : Hid (parseD l = ⟨2, 0, t, 0⟩) := by rw [HV2.out, hu]; exact if_neg h64
        have hw := words_long h64
        have HW : Hid (∀ W, Calls Tryz.prog 109 #[.string (bs t)] W fun e w' => e = .returned (.agg #[.int .i64 2, .float .f64 (fb 0), .string (bs t)]) ∧ Below W.heap.size W w') := fun W => by have := words_val t W; rw [hw.1, hw.2] at this; exact this
        rw [HR.out]
        clear HV2 HR hu hw
        go_enter Tryz.func88, Tryz.ntmps88
        go_wp2_with (first | (go_at_call 89; ((with_reducible refine (HU.out _).mono ?_); rintro e w1 ⟨rfl, hb1⟩; obtain ⟨hbw, z0⟩ := below1 hb1; obtain ⟨hc, hf⟩ := bcell hb1; clear hb1)) | (go_at_call 109; ((with_reducible refine (HW.out _).mono ?_); rintro e w2 ⟨rfl, hb2⟩; obtain ⟨hc2, hf2⟩ := bcell hb2; have z2 := Nat.lt_of_lt_of_le z0 hb2.size)))
        exact bodyPost_ret (v := .tuple #[VA 2 0 t, .int .i64 0]) (by simp [results, Tryz.results88, go_sem, VA, hc2, hc, z0] <;> first | rfl | exact ⟨rfl, rfl⟩ | exact ⟨rfl, rfl, rfl⟩ | skip) rfl ⟨rfl, ((((hbw.trans (hb2.mono (by omega))).setCell (by first | (simp; done) | (simp; omega)) _).setCell (by first | (simp; done) | (simp; omega)) _).setCell (by first | (simp; done) | (simp; omega)) _)⟩
  · have HV2 := Lib.hid (HV.out.trans (if_neg hq))
    clear HV
    by_cases hn : l = [110, 111, 110, 101]
    · have HR : Hid (parseD l = ⟨0, 0, [], 0⟩) := by rw [HV2.out]; exact if_pos hn
      rw [HR.out]
      subst hn
      clear HV2 HR hq hl hsz
      go_enter Tryz.func88, Tryz.ntmps88
      go_wp2_with fail
      exact bodyPost_ret (v := .tuple #[VA 0 0 [], .int .i64 0]) (by simp [results, Tryz.results88, go_sem, VA] <;> first | rfl | exact ⟨rfl, rfl⟩ | exact ⟨rfl, rfl, rfl⟩ | skip) rfl ⟨rfl, by first | exact ((Below.refl w.heap.size w).alloc (Nat.le_refl _) _) | exact (((((Below.refl w.heap.size w).alloc (Nat.le_refl _) _).setCell (by first | (simp; done) | (simp; omega)) _).setCell (by first | (simp; done) | (simp; omega)) _).setCell (by first | (simp; done) | (simp; omega)) _)⟩
    · have HV3 := Lib.hid (HV2.out.trans (if_neg hn))
      have HP : Hid (∀ W, Calls Tryz.prog 110 #[.string (bs l)] W (Told W (parseOf l))) := fun W => parse_any l (by omega) W
      have en : (l == [110, 111, 110, 101]) = false := by rw [beq_eq_false_iff_ne]; exact hn
      clear HV2 hn
      obtain ⟨⟨z, er⟩, hz⟩ : ∃ r, parseOf l = r := ⟨_, rfl⟩
      rw [hz] at HV3 HP
      clear hz
      have hways : l = [] ∨ ((l == []) = false ∧ 0 < l.length ∧ (((bAt l 0).toNat : Int) == 34) = false) := by
        by_cases h0 : l = []
        · exact .inl h0
        · have : 0 < l.length := List.length_pos_iff.2 h0
          have hne : bAt l 0 ≠ 34 := fun h => hq ⟨by omega, h⟩
          exact .inr ⟨by rw [beq_eq_false_iff_ne]; exact h0, this, by rw [beq_eq_false_iff_ne]; intro h; exact hne (UInt8.toNat_inj.1 (by rw [show (34 : UInt8).toNat = 34 from rfl]; omega))⟩
      clear hq
      by_cases he : er = 0
      · subst he
        have HR : Hid (parseD l = ⟨1, canon z, [], 0⟩) := HV3.out.trans (if_pos rfl)
        rw [HR.out]
        clear HV3 HR
        have HNU : Hid (∀ W, Calls Tryz.prog 111 #[.float .f64 (fb z)] W fun e w' => e = .returned (.agg #[.int .i64 1, .float .f64 (fb (canon z)), .string (bs [])]) ∧ Below W.heap.size W w') := fun W => number_val z W
        rcases hways with rfl | ⟨e0, n0, hb⟩
        · clear en
          go_enter Tryz.func88, Tryz.ntmps88
          go_wp2_with (first | (go_at_call 110; ((with_reducible refine (HP.out _).mono ?_); rintro e w1 ⟨rfl, nd, rfl⟩)) | (go_at_call 111; ((with_reducible refine (HNU.out _).mono ?_); rintro e w2 ⟨rfl, hb2⟩; obtain ⟨hc2, hf2⟩ := bcell hb2; have z2 : w.heap.size < w2.heap.size := by have := hb2.size; simp at this; omega)))
          exact bodyPost_ret (v := .tuple #[VA 1 (canon z) [], .int .i64 0]) (by simp [results, Tryz.results88, go_sem, VA, hc2] <;> first | rfl | exact ⟨rfl, rfl⟩ | exact ⟨rfl, rfl, rfl⟩ | skip) rfl ⟨rfl, by first | exact ((below_drewN ((Below.refl w.heap.size w).alloc (Nat.le_refl _) _) nd).trans (hb2.mono (by simp))) | exact (((((below_drewN ((Below.refl w.heap.size w).alloc (Nat.le_refl _) _) nd).trans (hb2.mono (by simp))).setCell (by first | (simp; done) | (simp; omega)) _).setCell (by first | (simp; done) | (simp; omega)) _).setCell (by first | (simp; done) | (simp; omega)) _)⟩
        · go_enter Tryz.func88, Tryz.ntmps88
          go_wp2_with (first | (go_at_call 110; ((with_reducible refine (HP.out _).mono ?_); rintro e w1 ⟨rfl, nd, rfl⟩)) | (go_at_call 111; ((with_reducible refine (HNU.out _).mono ?_); rintro e w2 ⟨rfl, hb2⟩; obtain ⟨hc2, hf2⟩ := bcell hb2; have z2 : w.heap.size < w2.heap.size := by have := hb2.size; simp at this; omega)))
          exact bodyPost_ret (v := .tuple #[VA 1 (canon z) [], .int .i64 0]) (by simp [results, Tryz.results88, go_sem, VA, hc2] <;> first | rfl | exact ⟨rfl, rfl⟩ | exact ⟨rfl, rfl, rfl⟩ | skip) rfl ⟨rfl, by first | exact ((below_drewN ((Below.refl w.heap.size w).alloc (Nat.le_refl _) _) nd).trans (hb2.mono (by simp))) | exact (((((below_drewN ((Below.refl w.heap.size w).alloc (Nat.le_refl _) _) nd).trans (hb2.mono (by simp))).setCell (by first | (simp; done) | (simp; omega)) _).setCell (by first | (simp; done) | (simp; omega)) _).setCell (by first | (simp; done) | (simp; omega)) _)⟩
      · have HR : Hid (parseD l = ⟨0, 0, [], er⟩) := HV3.out.trans (if_neg he)
        rw [HR.out]
        clear HV3 HR
        have her : (er != 0) = true := by simp [he]
        rcases hways with rfl | ⟨e0, n0, hb⟩
        · clear en
          go_enter Tryz.func88, Tryz.ntmps88
          go_wp2_with (go_at_call 110; ((with_reducible refine (HP.out _).mono ?_); rintro e w1 ⟨rfl, nd, rfl⟩))
          exact bodyPost_ret (v := .tuple #[VA 0 0 [], .int .i64 er]) (by simp [results, Tryz.results88, go_sem, VA] <;> first | rfl | exact ⟨rfl, rfl⟩ | exact ⟨rfl, rfl, rfl⟩ | skip) rfl ⟨rfl, by first | exact (below_drewN ((Below.refl w.heap.size w).alloc (Nat.le_refl _) _) nd) | exact ((((below_drewN ((Below.refl w.heap.size w).alloc (Nat.le_refl _) _) nd).setCell (by first | (simp; done) | (simp; omega)) _).setCell (by first | (simp; done) | (simp; omega)) _).setCell (by first | (simp; done) | (simp; omega)) _)⟩
        · go_enter Tryz.func88, Tryz.ntmps88
          go_wp2_with (go_at_call 110; ((with_reducible refine (HP.out _).mono ?_); rintro e w1 ⟨rfl, nd, rfl⟩))
          exact bodyPost_ret (v := .tuple #[VA 0 0 [], .int .i64 er]) (by simp [results, Tryz.results88, go_sem, VA] <;> first | rfl | exact ⟨rfl, rfl⟩ | exact ⟨rfl, rfl, rfl⟩ | skip) rfl ⟨rfl, by first | exact (below_drewN ((Below.refl w.heap.size w).alloc (Nat.le_refl _) _) nd) | exact ((((below_drewN ((Below.refl w.heap.size w).alloc (Nat.le_refl _) _) nd).setCell (by first | (simp; done) | (simp; omega)) _).setCell (by first | (simp; done) | (simp; omega)) _).setCell (by first | (simp; done) | (simp; omega)) _)⟩
end Go.Proofs.YtalpbphfmelhhaaGreatDoor
