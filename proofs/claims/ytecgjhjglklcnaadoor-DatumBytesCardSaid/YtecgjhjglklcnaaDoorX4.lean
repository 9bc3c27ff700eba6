/-
  The walks of the writer's Float, Text, Bytes.
-/
import Derived.Test.YtecgjhjglklcnaaDoorX3
namespace Go.Proofs.YtecgjhjglklcnaaDoor
set_option maxRecDepth 100000
open Go.RowKit Go.Shelf Go.Sort
attribute [local go_sem] bs_size bs_get bs_toList frombits tobits
/-- What a last writing does. -/
def WEnd (w : World) (p : Nat) (v : Value) (l : List UInt8) (w' : World) : Prop := ∃ v', Wr w' p v' l ∧ Fr (WFr v p) w w'
theorem WDone.wend {w w' : World} {p : Nat} {v : Value} {l : List UInt8} (h : WDone w p v l w') : WEnd w p v l w' := by
  obtain ⟨v', a, b, _⟩ := h; exact ⟨v', a, b⟩
theorem WEnd.next {w w1 w2 : World} {p : Nat} {v v1 : Value} {l : List UInt8} (hf : Fr (WFr v p) w w1) (ho : ∀ k, v1.ownBlock = some k → v.ownBlock = some k ∨ w.heap.size ≤ k) (h2 : WEnd w1 p v1 l w2) : WEnd w p v l w2 := by
  obtain ⟨v2, a, b⟩ := h2
  refine ⟨v2, a, hf.trans' b (fun _ _ h => h) (fun k hk h => ?_)⟩
  rcases h with h | h
  · exact .inl h
  · rcases ho k h with h3 | h3
    · exact .inr h3
    · omega
theorem Wr.step2 {w w0 w1 : World} {p : Nat} {v v1 : Value} {l x : List UInt8} (h : Wr w p v l) (h0 : Below w.heap.size w w0) (hg : w0.grownBy w1 v.ownBlock) (hown : Own8 w1 (p + 1) 5 v1 (l ++ x)) :
    WEnd w p v (l ++ x) (w1.setCell ⟨p, 0, none⟩ v1) := by
  obtain ⟨c1, c2, c3⟩ := h.cells h0 hg
  refine ⟨v1, ⟨cell_set_self c1, ?_, ?_⟩, ?_⟩
  · simp [c2]
  · refine ownsRow_keep hown fun k hk => Below.heap_setCell _ _ _ _ (fun e => ?_)
    have := (World.ownsRow.lt hown k hk).1
    have : k = p := e
    omega
  · exact (Fr.grown (S := WFr v p) (Fr.of_new h0) hg (fun k _ hr => .inr hr)).setCell (fun _ => .inl rfl) _
theorem Wr.below {w w' : World} {p : Nat} {v : Value} {l : List UInt8} (h : Wr w p v l) (hb : Below w.heap.size w w') : Wr w' p v l := by
  have hp := h.lt
  exact ⟨by rw [hb.cell (p := ⟨p, 0, none⟩) hp]; exact h.1, by rw [hb.frozen (p := ⟨p, 0, none⟩) hp]; exact h.2.1, Own8.below h.2.2 (Nat.le_refl _) hb⟩
set_option maxHeartbeats 2000000 in
theorem wFloat_any (y : UInt64) (p : Nat) (v : Value) (l : List UInt8) (hl : l.length ≤ 100000000) (w : World) (h : Wr w p v l) :
    Calls Tryd.prog 64 #[.pointer (some ⟨p, 0, none⟩), .float .f64 (fb y)] w fun e w' => e = .returned (.tuple #[]) ∧ WDone w p v (l ++ le8 8 (canon y)) w' := by
  have HW := Lib.hid h
  clear h
  obtain ⟨U, hU⟩ : ∃ U, canon y = U := ⟨_, rfl⟩
  have HB : Hid (∀ W, Calls Tryd.prog 50 #[.float .f64 (fb y)] W fun e w' => e = .returned (.int .u64 (n64 U)) ∧ w' = W) := fun W => by rw [← hU]; exact bitsF_any y W
  rw [hU]
  clear hU
  go_enter Tryd.func64, Tryd.ntmps64
  go_wp2_with (go_at_call 50; ((with_reducible refine (HB.out _).mono ?_); rintro e w' ⟨rfl, rfl⟩))
  obtain ⟨w0, rfl⟩ : ∃ x : World, x = w' := ⟨_, rfl⟩
  go_loopw [4, 7] (fun u i wr => ∃ (k : Nat) (x : UInt64) (v1 : Value) (cur : List UInt8), k ≤ 8 ∧ i = .int .i64 k ∧ u = .int .u64 (n64 x) ∧ Hid (Wr wr p v1 cur) ∧ Hid (cur ++ le8 (8 - k) x = l ++ le8 8 U) ∧ cur.length = l.length + k ∧ Hid (Fr (WFr v p) w0 wr ∧ ∀ k, v1.ownBlock = some k → v.ownBlock = some k ∨ w0.heap.size ≤ k)) (fun _ i _ => 8 - (intOf i).toNat)
  case atStart => exact ⟨0, U, v, l, by omega, rfl, rfl, HW.out, rfl, rfl, Fr.refl _ _, fun _ hk => .inl hk⟩
  case round =>
    obtain ⟨k, x, v1, cur, hk, rfl, rfl, HW1, HQ, hcl, HF⟩ := hrel
    have hcl2 : cur.length ≤ 100000008 := by omega
    have HL := Lib.hid hcl
    clear hcl
    by_cases hlt : k < 8
    · obtain ⟨c0, f0, _⟩ := HW1.out
      have hp := HW1.out.lt
      have q1 := n64_to8 x
      have q3 : Op.shift .shr .u64 (n64 x) .u64 8 = pure (.int .u64 (n64 (x >>> 8))) := sh64_shr x .u64 8 (by decide) (by decide)
      have HQ2 : Hid ((cur ++ [x.toUInt8]) ++ le8 (8 - (k + 1)) (x >>> 8) = l ++ le8 8 U) := by
        rw [← HQ.out, show 8 - k = (8 - (k + 1)) + 1 by omega, List.append_assoc]; exact rfl
      go_wp2_with (at_builtin; refine wpList_app2 S8 rfl (.tmp 13) (.tmp 16) rfl (p + 1) rfl (Own8.alloc HW1.out.2.2 _) rfl (Rd.one _ _ _) (by simp [Value.oneCell']) (by omega) (by simp [maxLen]; omega) (by simp; omega) ?_)
      intro v2 w2 hown' hg hat
      obtain ⟨a2, cap2, rfl, _⟩ := Rd.of_own hown'
      obtain ⟨c1, f1, l1⟩ := HW1.out.cells ((Below.refl _ _).alloc (Nat.le_refl _) _) hg
      have hst := HW1.out.step ((Below.refl _ _).alloc (Nat.le_refl _) _) hg (Own8.mk (l := cur ++ [x.toUInt8]) hown' (by rw [List.length_append]; rfl) (by rw [B8_append]; rfl)) (hat_of hat)
      have HST := Lib.hid hst
      clear hst hown' hg hat
      go_wp2
      go_roundw
      case rel =>
        refine ⟨k + 1, x >>> 8, _, cur ++ [x.toUInt8], by omega, by go_num, rfl, HST.out.1, HQ2, by rw [List.length_append, HL.out]; simp; omega, ?_⟩
        exact ⟨HF.out.1.trans' HST.out.2.1 (fun _ _ h => h) (fun k hk h => by rcases h with h | h; exact .inl h; rcases HF.out.2 k h with h3 | h3; exact .inr h3; omega), fun k hk => by rcases HST.out.2.2 k hk with h | h; exact HF.out.2 k h; exact .inr (Nat.le_trans HF.out.1.size h)⟩
      case measure => simp [intOf]; omega
    · have hk8 : k = 8 := by omega
      subst hk8
      have HQ2 : Hid (cur = l ++ le8 8 U) := by rw [← HQ.out]; show cur = cur ++ le8 0 x; simp [le8]
      have HWf : Hid (Wr wr p v1 (l ++ le8 8 U)) := by rw [← HQ2.out]; exact HW1.out
      clear hcl2
      go_wp2
      go_end0
      exact ⟨rfl, _, HWf.out, HF.out.1, HF.out.2⟩
set_option maxHeartbeats 2000000 in
theorem wText_any (m : List UInt8) (hm : m.length ≤ 100000000) (p : Nat) (v : Value) (l : List UInt8) (hl : l.length ≤ 10000000) (w : World) (h : Wr w p v l) :
    Calls Tryd.prog 65 #[.pointer (some ⟨p, 0, none⟩), .string (bs m)] w fun e w' => e = .returned (.tuple #[]) ∧ WEnd w p v (l ++ (intB m.length ++ m)) w' := by
  have HW := Lib.hid h
  clear h
  have hsz : (bs m).size = m.length := bs_size m
  have HB : Hid (∀ W, Wr W p v l → Calls Tryd.prog 63 #[.pointer (some ⟨p, 0, none⟩), .int .i64 m.length] W fun e w' => e = .returned (.tuple #[]) ∧ WDone W p v (l ++ intB m.length) w') := fun W h => wInt_any _ (by omega) (by omega) p v l (by omega) W h
  have HZ : Hid ((intB m.length).length ≤ 10) := encU_len64 _ (zz_lt (by omega) (by omega))
  go_enter Tryd.func65, Tryd.ntmps65
  go_wp2_with fail
  go_at_call 63
  refine (HB.out _ HW.out).mono ?_
  rintro e w1 ⟨rfl, v1, hw1, hf1, ho1⟩
  have HW1 := Lib.hid hw1
  have HF := Lib.hid (And.intro hf1 ho1)
  obtain ⟨c0, f0, _⟩ := hw1
  have hp := HW1.out.lt
  clear hf1 ho1
  have hlb : (l ++ intB m.length).length ≤ 10000010 := by have := HZ.out; rw [List.length_append]; omega
  go_wp2_with (at_builtin; refine wpList_appS S8 Tryd.underlying9 rfl (.tmp 12) (.tmp 13) rfl (p + 1) rfl HW1.out.2.2 rfl (by omega) (by omega) ?_)
  intro v2 w2 hown' hg
  have hown2 : Own8 w2 (p + 1) 5 v2 ((l ++ intB m.length) ++ m) := by rw [List.append_assoc]; exact hown'
  have hst := HW1.out.step2 (Below.refl _ _) hg hown2
  clear hown2
  obtain ⟨c1, f1, l1⟩ := HW1.out.cells (Below.refl _ _) hg
  obtain ⟨a2, cap2, rfl, _⟩ := Own8.rd hown'
  rw [List.append_assoc] at hst
  simp only [List.length_append] at hst
  have HST := Lib.hid hst
  clear hst hown' hg
  go_wp2
  go_end0
  exact ⟨rfl, WEnd.next HF.out.1 HF.out.2 HST.out⟩
set_option maxHeartbeats 1000000 in
theorem wBytes_any (p : Nat) (v : Value) (l : List UInt8) (hl : l.length ≤ 100000000) (w : World) (h : Wr w p v l) :
    Calls Tryd.prog 44 #[.pointer (some ⟨p, 0, none⟩)] w fun e w' => ∃ v', e = .returned v' ∧ Own8 w' w.heap.size 5 v' l ∧ Below w.heap.size w w' := by
  have HW := Lib.hid h
  obtain ⟨c0, f0, hown⟩ := h
  have hp := HW.out.lt
  obtain ⟨a1, cap1, rfl, hr⟩ := hown.rd
  have HR := Lib.hid hr
  clear hown hr
  go_enter Tryd.func44, Tryd.ntmps44
  go_wp2_with (at_builtin; refine wpList_app S8 rfl (.tmp 3) (.tmp 7) rfl w.heap.size rfl (World.ownsRow_lit w #[] 0 (Nat.le_refl _) (by decide) rfl) rfl (HR.out.2.below ((Below.refl _ _).alloc (Nat.le_refl _) _)) (B8_one _) (by omega) (by simp [maxLen]; omega) (by simp) ?_)
  intro v2 w2 hown' hb _
  have HO := Lib.hid (Own8.mk (l := l) hown' (by simp) (by simp))
  clear hown'
  go_wp2
  go_ret
  exact ⟨_, rfl, HO.out, ((Below.refl _ _).alloc (Nat.le_refl _) _).trans hb⟩
end Go.Proofs.YtecgjhjglklcnaaDoor
