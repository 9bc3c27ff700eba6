/-
  The walk of datum's Put.
-/
import Derived.Test.YtecgjhjglklcnaaDoorX4
import Derived.Test.YtecgjhjglklcnaaDoorD15
namespace Go.Proofs.YtecgjhjglklcnaaDoor
set_option maxRecDepth 100000
open Go.RowKit Go.Shelf Go.Sort
attribute [local go_sem] bs_size bs_get bs_toList frombits tobits run_store_float
theorem cell_set_self' {w : World} {a : Addr} {u v : Value} (h : w.cell? a = some u) : (w.setCell a v).cell? a = some v := World.cell?_setCell_same' w _ v (by rw [h]; rfl)
def putB (k : Int) (x : UInt64) (s : List UInt8) : List UInt8 :=
  if mayB k x s then intB k ++ (if k = 1 then le8 8 (canon x) else if k = 2 then intB s.length ++ s else []) else intB 0
theorem Wr.setOther {w : World} {p : Nat} {v : Value} {l : List UInt8} (h : Wr w p v l) {b : Nat} (hb : b ≠ p) (ho : v.ownBlock ≠ some b) (o : Nat) (u : Value) : Wr (w.setCell ⟨b, o, none⟩ u) p v l := by
  have hk : (w.setCell ⟨b, o, none⟩ u).heap[p]? = w.heap[p]? := Below.heap_setCell _ _ _ _ (fun e => hb e.symm)
  exact ⟨by rw [World.cell?_of_block (w := w) (a := ⟨p, 0, none⟩) hk]; exact h.1, by rw [World.frozen?_of_block (w := w) (a := ⟨p, 0, none⟩) hk]; exact h.2.1,
    ownsRow_keep h.2.2 fun k hk => Below.heap_setCell _ _ _ _ (fun e => ho (by rw [hk]; exact congrArg some e))⟩
/-- A cell of another block, through a writing. -/
theorem WDone.cell {w w' : World} {p : Nat} {v : Value} (h : Fr (WFr v p) w w') {b o : Nat} {u : Value} (hc : w.cell? ⟨b, o, none⟩ = some u) (hb : b ≠ p) (ho : v.ownBlock ≠ some b) : w'.cell? ⟨b, o, none⟩ = some u := by
  have hl := World.block_lt_of_cell? w _ hc
  rw [h.cell hl (fun e => by rcases e with e | e; exact hb e; exact ho e)]; exact hc
set_option maxHeartbeats 2000000 in
theorem put_any (k : Int) (x : UInt64) (s : List UInt8) (hs : s.length ≤ 2000) (p : Nat) (v : Value) (l : List UInt8) (hl : l.length ≤ 1000000) (w : World) (h : Wr w p v l) :
    Calls Tryd.prog 38 #[.pointer (some ⟨p, 0, none⟩), VA k x s] w fun e w' => e = .returned (.tuple #[]) ∧ WEnd w p v (l ++ putB k x s) w' := by
  unfold VA
  have HM : Hid (∀ W, Calls Tryd.prog 20 #[.agg #[.int .i64 k, .float .f64 (fb x), .string (bs s)]] W fun e w' => e = .returned (.bool (mayB k x s)) ∧ Below W.heap.size W w') := fun W => may_any k x s W
  have HV : Hid (putB k x s = if mayB k x s then intB k ++ (if k = 1 then le8 8 (canon x) else if k = 2 then intB s.length ++ s else []) else intB 0) := rfl
  have hp := h.lt
  have hob : v.ownBlock ≠ some w.heap.size := fun e => by have := (World.ownsRow.lt h.2.2 _ e).2; omega
  have HO := Lib.hid hob
  have hpb : w.heap.size ≠ p := by omega
  have HPB := Lib.hid hpb
  have HW := Lib.hid h
  have HI : Hid (∀ (n : Int) (W : World), (-9223372036854775808 ≤ n) → (n ≤ 9223372036854775807) → Wr W p v l → Calls Tryd.prog 63 #[.pointer (some ⟨p, 0, none⟩), .int .i64 n] W fun e w' => e = .returned (.tuple #[]) ∧ WDone W p v (l ++ intB n) w') := fun n W h0 h1 h => wInt_any n h0 h1 p v l (by omega) W h
  clear h hob hpb
  obtain ⟨c0, c1, c2⟩ := vat w k x s 24
  have hb0 : Below w.heap.size w (w.alloc (.cells #[.int .i64 k, .float .f64 (fb x), .string (bs s)] 24)) := (Below.refl _ _).alloc (Nat.le_refl _) _
  have HB0 := Lib.hid hb0
  clear hb0
  cases hm : mayB k x s with
  | false =>
    have HR : Hid (putB k x s = intB 0) := by rw [HV.out, hm]; exact rfl
    rw [hm] at HM
    rw [HR.out]
    clear hm HV HR
    go_enter Tryd.func38, Tryd.ntmps38
    go_wp2_with fail
    go_at_call 20
    refine (HM.out _).mono ?_
    rintro e w1 ⟨rfl, hb1⟩
    have e0 := keep1 c0 hb1
    have e1 := keep1 c1 hb1
    have e2 := keep1 c2 hb1
    have z1 : w.heap.size < w1.heap.size := World.block_lt_of_cell? _ _ e0
    have HW1 := Lib.hid ((HW.out.below HB0.out).below hb1)
    obtain ⟨hc, hf⟩ := bcell hb1
    have HF1 := Lib.hid (Below.trans HB0.out (hb1.mono (by simp)))
    clear c0 c1 c2 hb1
    go_wp2_with fail
    go_at_call 63
    refine (HI.out 0 _ (by decide) (by decide) (((HW1.out.setOther HPB.out HO.out _ _).setOther HPB.out HO.out _ _).setOther HPB.out HO.out _ _)).mono ?_
    rintro e w2 ⟨rfl, v2, hw2, hf2, ho2⟩
    have g0 := WDone.cell hf2 (b := w.heap.size) (o := 0) (u := .int .i64 0) ((World.cell?_setCell_other _ _ _ _ (by simp)).trans ((World.cell?_setCell_other _ _ _ _ (by simp)).trans (cell_set_self' e0))) HPB.out HO.out
    have HF2 := Lib.hid hf2
    have HW2 := Lib.hid hw2
    clear hf2 hw2 e0 e1 e2
    go_wp2_with fail
    go_end0
    exact ⟨rfl, v2, HW2.out, ((((Fr.of_new (S := WFr v p) HF1.out).setCell (fun h => absurd h (Nat.lt_irrefl _)) _).setCell (fun h => absurd h (Nat.lt_irrefl _)) _).setCell (fun h => absurd h (Nat.lt_irrefl _)) _).trans HF2.out⟩
  | true =>
    rw [hm] at HM
    have hk := may_kinds hm
    have hkb : -9223372036854775808 ≤ k ∧ k ≤ 9223372036854775807 := by omega
    have HKB := Lib.hid hkb
    have HV2 := Lib.hid (HV.out.trans (if_pos hm))
    clear hm hkb HV
    rcases hk with rfl | rfl | rfl
    · have HR : Hid (putB 0 x s = intB 0) := HV2.out.trans (by rw [if_neg (by decide), if_neg (by decide), List.append_nil])
      rw [HR.out]
      clear HV2 HR
      go_enter Tryd.func38, Tryd.ntmps38
      go_wp2_with fail
      go_at_call 20
      refine (HM.out _).mono ?_
      rintro e w1 ⟨rfl, hb1⟩
      have e0 := keep1 c0 hb1
      have z1 : w.heap.size < w1.heap.size := World.block_lt_of_cell? _ _ e0
      have HW1 := Lib.hid ((HW.out.below HB0.out).below hb1)
      have HF1 := Lib.hid (Below.trans HB0.out (hb1.mono (by simp)))
      clear c0 c1 c2 hb1
      go_wp2_with fail
      go_at_call 63
      refine (HI.out 0 _ (by decide) (by decide) HW1.out).mono ?_
      rintro e w2 ⟨rfl, v2, hw2, hf2, ho2⟩
      have g0 := WDone.cell hf2 e0 HPB.out HO.out
      have HF2 := Lib.hid hf2
      have HW2 := Lib.hid hw2
      clear hf2 hw2 e0
      go_wp2_with fail
      go_end0
      exact ⟨rfl, v2, HW2.out, (Fr.of_new (S := WFr v p) HF1.out).trans HF2.out⟩
    · have HR : Hid (putB 1 x s = intB 1 ++ le8 8 (canon x)) := HV2.out.trans (by rw [if_pos rfl])
      rw [HR.out]
      clear HV2 HR
      go_enter Tryd.func38, Tryd.ntmps38
      go_wp2_with fail
      go_at_call 20
      refine (HM.out _).mono ?_
      rintro e w1 ⟨rfl, hb1⟩
      have e0 := keep1 c0 hb1
      have e1 := keep1 c1 hb1
      have z1 : w.heap.size < w1.heap.size := World.block_lt_of_cell? _ _ e0
      have HW1 := Lib.hid ((HW.out.below HB0.out).below hb1)
      have HF1 := Lib.hid (Below.trans HB0.out (hb1.mono (by simp)))
      clear c0 c1 c2 hb1
      go_wp2_with fail
      go_at_call 63
      refine (HI.out 1 _ (by decide) (by decide) HW1.out).mono ?_
      rintro e w2 ⟨rfl, v2, hw2, hf2, ho2⟩
      have g0 := WDone.cell hf2 e0 HPB.out HO.out
      have g1 := WDone.cell hf2 e1 HPB.out HO.out
      have HF2 := Lib.hid (And.intro hf2 ho2)
      have HW2 := Lib.hid hw2
      have HZ : Hid ((intB 1).length ≤ 10) := encU_len64 _ (by decide)
      clear hf2 hw2 e0 e1 ho2
      go_wp2_with fail
      go_at_call 64
      refine (wFloat_any x p v2 _ (by have := HZ.out; rw [List.length_append]; omega) _ HW2.out).mono ?_
      rintro e w3 ⟨rfl, hw3⟩
      rw [List.append_assoc] at hw3
      have HW3 := Lib.hid hw3
      clear hw3
      go_wp2_with fail
      go_end0
      refine ⟨rfl, ?_⟩
      obtain ⟨v3, a, b⟩ := WEnd.next HF2.out.1 HF2.out.2 HW3.out.wend
      exact ⟨v3, a, (Fr.of_new (S := WFr v p) HF1.out).trans b⟩
    · have HR : Hid (putB 2 x s = intB 2 ++ (intB s.length ++ s)) := HV2.out.trans (by rw [if_neg (by decide), if_pos rfl])
      rw [HR.out]
      clear HV2 HR
      go_enter Tryd.func38, Tryd.ntmps38
      go_wp2_with fail
      go_at_call 20
      refine (HM.out _).mono ?_
      rintro e w1 ⟨rfl, hb1⟩
      have e0 := keep1 c0 hb1
      have e2 := keep1 c2 hb1
      have z1 : w.heap.size < w1.heap.size := World.block_lt_of_cell? _ _ e0
      have HW1 := Lib.hid ((HW.out.below HB0.out).below hb1)
      have HF1 := Lib.hid (Below.trans HB0.out (hb1.mono (by simp)))
      clear c0 c1 c2 hb1
      go_wp2_with fail
      go_at_call 63
      refine (HI.out 2 _ (by decide) (by decide) HW1.out).mono ?_
      rintro e w2 ⟨rfl, v2, hw2, hf2, ho2⟩
      have g0 := WDone.cell hf2 e0 HPB.out HO.out
      have g2 := WDone.cell hf2 e2 HPB.out HO.out
      have HF2 := Lib.hid (And.intro hf2 ho2)
      have HW2 := Lib.hid hw2
      have HZ : Hid ((intB 2).length ≤ 10) := encU_len64 _ (by decide)
      clear hf2 hw2 e0 e2 ho2
      go_wp2_with fail
      go_at_call 65
      refine (wText_any s (by omega) p v2 _ (by have := HZ.out; rw [List.length_append]; omega) _ HW2.out).mono ?_
      rintro e w3 ⟨rfl, hw3⟩
      rw [List.append_assoc] at hw3
      have HW3 := Lib.hid hw3
      clear hw3
      go_wp2_with fail
      go_end0
      refine ⟨rfl, ?_⟩
      obtain ⟨v3, a, b⟩ := WEnd.next HF2.out.1 HF2.out.2 HW3.out
      exact ⟨v3, a, (Fr.of_new (S := WFr v p) HF1.out).trans b⟩
end Go.Proofs.YtecgjhjglklcnaaDoor
