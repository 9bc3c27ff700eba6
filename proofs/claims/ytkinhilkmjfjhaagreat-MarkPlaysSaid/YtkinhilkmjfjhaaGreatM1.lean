/-
  The writer of numbers (X3 turned).
-/
import Derived.Test.YtkinhilkmjfjhaaGreatM0
import Derived.Test.YtkinhilkmjfjhaaGreatK3
import Derived.Test.YtkinhilkmjfjhaaGreatX2
namespace Go.Proofs.YtkinhilkmjfjhaaGreat
set_option maxRecDepth 100000
open Go.RowKit
attribute [local go_sem] bs_size bs_get bs_toList
/-- A writer at p that has written l; its slice is v. -/
def Wr (w : World) (p : Nat) (v : Value) (l : List UInt8) : Prop := w.cell? ⟨p, 0, none⟩ = some v ∧ w.frozen? ⟨p, 0, none⟩ = false ∧ Own8 w (p + 1) 5 v l
def WFr (v : Value) (p : Nat) (k : Nat) : Prop := k = p ∨ v.ownBlock = some k
/-- What a writing does. -/
def WDone (w : World) (p : Nat) (v : Value) (l : List UInt8) (w' : World) : Prop :=
  ∃ v', Wr w' p v' l ∧ Fr (WFr v p) w w' ∧ (∀ k, v'.ownBlock = some k → v.ownBlock = some k ∨ w.heap.size ≤ k)
theorem Wr.lt {w : World} {p : Nat} {v : Value} {l : List UInt8} (h : Wr w p v l) : p < w.heap.size := World.block_lt_of_cell? w _ h.1
theorem Wr.ne {w : World} {p : Nat} {v : Value} {l : List UInt8} (h : Wr w p v l) : v.ownBlock ≠ some p := fun e => by
  have := (World.ownsRow.lt h.2.2 p e).1; omega
theorem WDone.same {w : World} {p : Nat} {v : Value} {l : List UInt8} (h : Wr w p v l) : WDone w p v l w := ⟨v, h, Fr.refl _ _, fun _ hk => .inl hk⟩
theorem WDone.next {w w1 w2 : World} {p : Nat} {v v1 : Value} {l : List UInt8} (hf : Fr (WFr v p) w w1) (ho : ∀ k, v1.ownBlock = some k → v.ownBlock = some k ∨ w.heap.size ≤ k) (h2 : WDone w1 p v1 l w2) : WDone w p v l w2 := by
  obtain ⟨v2, a, b, c⟩ := h2
  refine ⟨v2, a, hf.trans' b (fun _ _ h => h) (fun k hk h => ?_), fun k hk => ?_⟩
  · rcases h with h | h
    · exact .inl h
    · rcases ho k h with h3 | h3
      · exact .inr h3
      · omega
  · rcases c k hk with h | h
    · exact ho k h
    · exact .inr (Nat.le_trans hf.size h)
/-- Behind new blocks and an append its cell is as it was. -/
theorem Wr.cells {w w0 w1 : World} {p : Nat} {v : Value} {l : List UInt8} (h : Wr w p v l) (h0 : Below w.heap.size w w0) (hg : w0.grownBy w1 v.ownBlock) :
    w1.cell? ⟨p, 0, none⟩ = some v ∧ w1.frozen? ⟨p, 0, none⟩ = false ∧ p < w1.heap.size := by
  have hp := h.lt
  have hb : w1.heap[p]? = w.heap[p]? := (hg.block p (Nat.lt_of_lt_of_le hp h0.size) (fun e => h.ne e.symm)).trans (h0.block p hp)
  exact ⟨by rw [World.cell?_of_block (w := w) (a := ⟨p, 0, none⟩) hb]; exact h.1, by rw [World.frozen?_of_block (w := w) (a := ⟨p, 0, none⟩) hb]; exact h.2.1, Nat.lt_of_lt_of_le (Nat.lt_of_lt_of_le hp h0.size) hg.size⟩
theorem cell_set_self {w : World} {p : Nat} {u v : Value} (h : w.cell? ⟨p, 0, none⟩ = some u) : (w.setCell ⟨p, 0, none⟩ v).cell? ⟨p, 0, none⟩ = some v := by
  exact World.cell?_setCell_same' w _ v (by rw [h]; rfl)
/-- One statement of the writer's: more bytes. -/
theorem Wr.step {w w0 w1 : World} {p : Nat} {v v1 : Value} {l x : List UInt8} (h : Wr w p v l) (h0 : Below w.heap.size w w0) (hg : w0.grownBy w1 v.ownBlock) (hown : Own8 w1 (p + 1) 5 v1 (l ++ x))
    (hat : ∀ k, v1.ownBlock = some k → v.ownBlock = some k ∨ w.heap.size ≤ k) :
    Wr (w1.setCell ⟨p, 0, none⟩ v1) p v1 (l ++ x) ∧ Fr (WFr v p) w (w1.setCell ⟨p, 0, none⟩ v1) ∧ (∀ k, v1.ownBlock = some k → v.ownBlock = some k ∨ w.heap.size ≤ k) := by
  obtain ⟨c1, c2, c3⟩ := h.cells h0 hg
  refine ⟨⟨cell_set_self c1, ?_, ?_⟩, ?_, fun k hk => ?_⟩
  · simp [c2]
  · refine ownsRow_keep hown fun k hk => Below.heap_setCell _ _ _ _ (fun e => ?_)
    have := (World.ownsRow.lt hown k hk).1
    have : k = p := e
    omega
  · exact (Fr.grown (S := WFr v p) (Fr.of_new h0) hg (fun k _ hr => .inr hr)).setCell (fun _ => .inl rfl) _
  · exact hat k hk
theorem hat_of {w : World} {v v1 : Value} (h : v1.ownBlock = v.ownBlock ∨ v1.ownBlock = some (w.heap.size + 1)) : ∀ k, v1.ownBlock = some k → v.ownBlock = some k ∨ w.heap.size ≤ k := by
  intro k hk
  rcases h with e | e
  · exact .inl (by rw [← e]; exact hk)
  · rw [e, Option.some.injEq] at hk; exact .inr (by omega)
theorem newWriter_any (w : World) : Calls Tryz.prog 75 #[] w fun e w' => e = .returned (.pointer (some ⟨w.heap.size, 0, none⟩)) ∧ w' = w.alloc (.cells #[.slice none 0 0] 136) := by
  go_enter Tryz.func75, Tryz.ntmps75
  go_wp2
  go_ret
  exact ⟨rfl, rfl⟩
theorem newWriter_wr (w : World) : Wr (w.alloc (.cells #[.slice none 0 0] 136)) w.heap.size (.slice none 0 0) [] := by
  refine ⟨?_, ?_, Own8.nil _ _ _⟩
  · rw [cell_of_row _ w.heap.size _ _ 136 (0, 0) (heap_alloc_new w _)]; rfl
  · simp
theorem or128 (c : UInt8) : bits .or .u8 (n8 c) 128 = n8 (c ||| 128) := n8_or c 128
theorem enc_hi {x : UInt64} (h : ¬ x.toNat < 128) : encU x.toNat = (x.toUInt8 ||| 128) :: encU (x >>> 7).toNat := by
  have hx : (x >>> 7).toNat = x.toNat / 128 := by rw [UInt64.toNat_shiftRight, show (7 : UInt64).toNat % 64 = 7 from rfl, Nat.shiftRight_eq_div_pow]
  rw [encU_big h, hx]
  congr 1
  apply UInt8.toNat_inj.1
  rw [ofNat8 (by omega), UInt8.toNat_or, UInt64.toNat_toUInt8, show (128 : UInt8).toNat = 2 ^ 7 * 1 from rfl, show (2 : Nat) ^ 8 = 256 from rfl]
  have e : ∀ a : Fin 256, a.val % 128 + 128 = a.val ||| 2 ^ 7 * 1 := by decide +kernel
  have := e ⟨x.toNat % 256, by omega⟩
  simp only at this
  omega
theorem enc_lo {x : UInt64} (h : x.toNat < 128) : encU x.toNat = [x.toUInt8] := by
  rw [encU_small h]
  congr 1
set_option maxHeartbeats 2000000 in
/-- The writing of groups. -/
theorem wInt_core (n : Int) (U X : UInt64) (hX : IntKind.u64.wrap n = n64 X) (hU : U = if n < 0 then ~~~(X <<< 1) else X <<< 1) (p : Nat) (v : Value) (l : List UInt8) (hl : l.length ≤ 100000000) (w : World) (h : Wr w p v l) :
    Calls Tryz.prog 76 #[.pointer (some ⟨p, 0, none⟩), .int .i64 n] w fun e w' => e = .returned (.tuple #[]) ∧ WDone w p v (l ++ encU U.toNat) w' := by
  have HW := Lib.hid h
  clear h
  have hs1 : Op.shift .shl .u64 (n64 X) .u64 1 = pure (.int .u64 (n64 (X <<< 1))) := sh64_shl X .u64 1 (by decide) (by decide)
  have hs2 := un64_not (X <<< 1)
  have HE : Hid ((encU U.toNat).length ≤ 10) := encU_len64 _ U.toNat_lt
  by_cases hn : n < 0
  case' pos => rw [if_pos hn] at hU
  case' neg => rw [if_neg hn] at hU
  all_goals
    simp only [← hU] at hs2 hs1
    clear hU
    go_enter Tryz.func76, Tryz.ntmps76
    go_wp2_with fail
    have hU0 := n64_nn U
    go_loopw [4] (fun u wr => ∃ (x : UInt64) (v1 : Value) (cur : List UInt8), u = .int .u64 (n64 x) ∧ Hid (Wr wr p v1 cur) ∧ Hid (cur ++ encU x.toNat = l ++ encU U.toNat) ∧ cur.length ≤ l.length + 10 ∧ Hid (Fr (WFr v p) w wr ∧ ∀ k, v1.ownBlock = some k → v.ownBlock = some k ∨ w.heap.size ≤ k)) (fun u _ => (intOf u).toNat)
    case atStart => exact ⟨U, v, l, rfl, HW.out, rfl, by omega, Fr.refl _ _, fun _ hk => .inl hk⟩
    case round =>
      obtain ⟨x, v1, cur, rfl, HW1, HQ, hcl, HF⟩ := hrel
      obtain ⟨c0, f0, _⟩ := HW1.out
      have hp := HW1.out.lt
      have q1 := n64_to8 x
      by_cases hx : x.toNat < 128
      · have hd : decide (128 ≤ n64 x) = false := decide_eq_false (by unfold n64; omega)
        have HQ2 : Hid (cur ++ [x.toUInt8] = l ++ encU U.toNat) := by rw [← HQ.out, enc_lo hx]; exact rfl
        clear hx
        go_wp2_with (at_builtin; refine wpList_app2 S8 rfl (.tmp 32) (.tmp 35) rfl (p + 1) rfl (Own8.alloc HW1.out.2.2 _) rfl (Rd.one _ _ _) (by simp [Value.oneCell']) (by omega) (by simp [maxLen]; omega) (by simp; omega) ?_)
        intro v2 w2 hown' hg hat
        obtain ⟨a2, cap2, rfl, _⟩ := Rd.of_own hown'
        obtain ⟨c1, f1, l1⟩ := HW1.out.cells ((Below.refl _ _).alloc (Nat.le_refl _) _) hg
        have hst := HW1.out.step ((Below.refl _ _).alloc (Nat.le_refl _) _) hg (Own8.mk (l := cur ++ [x.toUInt8]) hown' (by rw [List.length_append]; rfl) (by rw [B8_append]; rfl)) (hat_of hat)
        rw [HQ2.out] at hst
        have HST := Lib.hid hst
        clear hst hown' hg hat
        go_wp2
        go_end0
        exact ⟨rfl, WDone.next HF.out.1 HF.out.2 ⟨_, HST.out.1, HST.out.2.1, HST.out.2.2⟩⟩
      · have hd : decide (128 ≤ n64 x) = true := decide_eq_true (by unfold n64; omega)
        have q2 := or128 x.toUInt8
        have q3 : Op.shift .shr .u64 (n64 x) .u64 7 = pure (.int .u64 (n64 (x >>> 7))) := sh64_shr x .u64 7 (by decide) (by decide)
        have HQ2 : Hid ((cur ++ [x.toUInt8 ||| 128]) ++ encU (x >>> 7).toNat = l ++ encU U.toNat) := by rw [← HQ.out, enc_hi hx, List.append_assoc]; exact rfl
        have hlen : cur.length + 1 ≤ l.length + 10 := by have h1 := congrArg List.length HQ2.out; have h2 := HE.out; simp only [List.length_append, List.length_cons, List.length_nil] at h1; omega
        have HM : Hid ((n64 (x >>> 7)).toNat < (n64 x).toNat) := by
          have : (x >>> 7).toNat = x.toNat / 128 := by rw [UInt64.toNat_shiftRight, show (7 : UInt64).toNat % 64 = 7 from rfl, Nat.shiftRight_eq_div_pow]
          show (n64 (x >>> 7)).toNat < (n64 x).toNat
          unfold n64; omega
        clear hx
        go_wp2_with (at_builtin; refine wpList_app2 S8 rfl (.tmp 18) (.tmp 22) rfl (p + 1) rfl (Own8.alloc HW1.out.2.2 _) rfl (Rd.one _ _ _) (by simp [Value.oneCell']) (by omega) (by simp [maxLen]; omega) (by simp; omega) ?_)
        intro v2 w2 hown' hg hat
        obtain ⟨a2, cap2, rfl, _⟩ := Rd.of_own hown'
        obtain ⟨c1, f1, l1⟩ := HW1.out.cells ((Below.refl _ _).alloc (Nat.le_refl _) _) hg
        have hst := HW1.out.step ((Below.refl _ _).alloc (Nat.le_refl _) _) hg (Own8.mk (l := cur ++ [x.toUInt8 ||| 128]) hown' (by rw [List.length_append]; rfl) (by rw [B8_append]; rfl)) (hat_of hat)
        have HST := Lib.hid hst
        clear hst hown' hg hat
        go_wp2
        go_roundw
        case rel =>
          refine ⟨x >>> 7, _, cur ++ [x.toUInt8 ||| 128], rfl, HST.out.1, HQ2, by rw [List.length_append]; simp; omega, ?_⟩
          obtain ⟨v3, _, b, c⟩ := WDone.next HF.out.1 HF.out.2 ⟨_, HST.out.1, HST.out.2.1, HST.out.2.2⟩
          exact ⟨HF.out.1.trans' HST.out.2.1 (fun _ _ h => h) (fun k hk h => by rcases h with h | h; exact .inl h; rcases HF.out.2 k h with h3 | h3; exact .inr h3; omega), fun k hk => by rcases HST.out.2.2 k hk with h | h; exact HF.out.2 k h; exact .inr (Nat.le_trans HF.out.1.size h)⟩
        case measure => simp only [intOf]; exact HM.out
/-- The whole number in two's complement, as groups. -/
theorem wInt_u {n : Int} (h0 : -9223372036854775808 ≤ n) (h1 : n ≤ 9223372036854775807) : ∃ X : UInt64, IntKind.u64.wrap n = n64 X ∧ (if n < 0 then ~~~(X <<< 1) else X <<< 1).toNat = zz n := by
  refine ⟨_, wr64 n, ?_⟩
  obtain ⟨X, hX⟩ : ∃ X, UInt64.ofNat (n % 18446744073709551616).toNat = X := ⟨_, rfl⟩
  have hx : X.toNat = (n % 18446744073709551616).toNat := by rw [← hX, UInt64.toNat_ofNat', Nat.mod_eq_of_lt (by omega)]
  rw [hX]
  have hs : (X <<< 1).toNat = X.toNat * 2 % 18446744073709551616 := by rw [UInt64.toNat_shiftLeft, show (1 : UInt64).toNat % 64 = 1 from rfl, Nat.shiftLeft_eq]
  unfold zz
  split
  · rw [UInt64.toNat_not, hs, show UInt64.size = 18446744073709551616 from rfl]; omega
  · rw [hs]; omega
theorem wInt_any (n : Int) (h0 : -9223372036854775808 ≤ n) (h1 : n ≤ 9223372036854775807) (p : Nat) (v : Value) (l : List UInt8) (hl : l.length ≤ 100000000) (w : World) (h : Wr w p v l) :
    Calls Tryz.prog 76 #[.pointer (some ⟨p, 0, none⟩), .int .i64 n] w fun e w' => e = .returned (.tuple #[]) ∧ WDone w p v (l ++ intB n) w' := by
  obtain ⟨X, hX, hz⟩ := wInt_u h0 h1
  have := wInt_core n _ X hX rfl p v l hl w h
  rw [hz] at this; exact this
/-- What a last writing does. -/
def WEnd (w : World) (p : Nat) (v : Value) (l : List UInt8) (w' : World) : Prop := ∃ v', Wr w' p v' l ∧ Fr (WFr v p) w w'
theorem WDone.wend {w w' : World} {p : Nat} {v : Value} {l : List UInt8} (h : WDone w p v l w') : WEnd w p v l w' := by
  obtain ⟨v', a, b, _⟩ := h; exact ⟨v', a, b⟩
theorem WEnd.next {w w1 w2 : World} {p : Nat} {v v1 : Value} {l : List UInt8} (hf : Fr (WFr v p) w w1) (ho : ∀ k, v1.ownBlock = some k → v.ownBlock = some k ∨ w.heap.size ≤ k) (h2 : WEnd w1 p v1 l w2) : WEnd w p v l w2 := by
  obtain ⟨v2, a, b⟩ := h2
  refine ⟨v2, a, hf.trans' b (fun _ _ h => h) (fun k hk h => ?_)⟩
  rcases h with h | h
  · exact .inl h
  · rcases ho k h with h3 | h3
    · exact .inr h3
    · omega
theorem Wr.step2 {w w0 w1 : World} {p : Nat} {v v1 : Value} {l x : List UInt8} (h : Wr w p v l) (h0 : Below w.heap.size w w0) (hg : w0.grownBy w1 v.ownBlock) (hown : Own8 w1 (p + 1) 5 v1 (l ++ x)) :
    WEnd w p v (l ++ x) (w1.setCell ⟨p, 0, none⟩ v1) := by
  obtain ⟨c1, c2, c3⟩ := h.cells h0 hg
  refine ⟨v1, ⟨cell_set_self c1, ?_, ?_⟩, ?_⟩
  · simp [c2]
  · refine ownsRow_keep hown fun k hk => Below.heap_setCell _ _ _ _ (fun e => ?_)
    have := (World.ownsRow.lt hown k hk).1
    have : k = p := e
    omega
  · exact (Fr.grown (S := WFr v p) (Fr.of_new h0) hg (fun k _ hr => .inr hr)).setCell (fun _ => .inl rfl) _
theorem Wr.below {w w' : World} {p : Nat} {v : Value} {l : List UInt8} (h : Wr w p v l) (hb : Below w.heap.size w w') : Wr w' p v l := by
  have hp := h.lt
  exact ⟨by rw [hb.cell (p := ⟨p, 0, none⟩) hp]; exact h.1, by rw [hb.frozen (p := ⟨p, 0, none⟩) hp]; exact h.2.1, Own8.below h.2.2 (Nat.le_refl _) hb⟩
theorem cell_set_self' {w : World} {a : Addr} {u v : Value} (h : w.cell? a = some u) : (w.setCell a v).cell? a = some v := World.cell?_setCell_same' w _ v (by rw [h]; rfl)
theorem Wr.setOther {w : World} {p : Nat} {v : Value} {l : List UInt8} (h : Wr w p v l) {b : Nat} (hb : b ≠ p) (ho : v.ownBlock ≠ some b) (o : Nat) (u : Value) : Wr (w.setCell ⟨b, o, none⟩ u) p v l := by
  have hk : (w.setCell ⟨b, o, none⟩ u).heap[p]? = w.heap[p]? := Below.heap_setCell _ _ _ _ (fun e => hb e.symm)
  exact ⟨by rw [World.cell?_of_block (w := w) (a := ⟨p, 0, none⟩) hk]; exact h.1, by rw [World.frozen?_of_block (w := w) (a := ⟨p, 0, none⟩) hk]; exact h.2.1,
    ownsRow_keep h.2.2 fun k hk => Below.heap_setCell _ _ _ _ (fun e => ho (by rw [hk]; exact congrArg some e))⟩
/-- A cell of another block, through a writing. -/
theorem WDone.cell {w w' : World} {p : Nat} {v : Value} (h : Fr (WFr v p) w w') {b o : Nat} {u : Value} (hc : w.cell? ⟨b, o, none⟩ = some u) (hb : b ≠ p) (ho : v.ownBlock ≠ some b) : w'.cell? ⟨b, o, none⟩ = some u := by
  have hl := World.block_lt_of_cell? w _ hc
  rw [h.cell hl (fun e => by rcases e with e | e; exact hb e; exact ho e)]; exact hc
end Go.Proofs.YtkinhilkmjfjhaaGreat
