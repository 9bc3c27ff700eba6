/-
  The chapter's examples (first). Written by a program (e17gen.py).
-/
import Derived.Test.YtdbfkneklkdnaaaE16
import Derived.Lib.SlBytesConst
namespace Go.Proofs.Ytdbfkneklkdnaaa
open Go.RowKit Go.Maps Go.Sort
set_option maxRecDepth 100000
attribute [local go_sem] bs_size bs_toList

theorem Done.new {B : Int} {w w' w2 : World} {d : Nat} {S : Nat → Prop} {s : DS} (h : Done B w d S s w') (hb : Below w'.heap.size w' w2) : Done B w d S s w2 :=
  ⟨(h.1.below hb).mono (Int.le_refl _) (fun k hk => hk.elim .inl fun h => .inr ⟨h.1, Nat.lt_of_lt_of_le h.2 hb.size⟩) (fun k hk => by
    rcases hk with hk | hk
    · exact Nat.lt_of_lt_of_le (h.1.lt k (.inl hk)) hb.size
    · exact hk.2), h.2.trans (Fr.of_new hb)⟩
/-- A deed behind another, told by the first world. -/
theorem Done.told {B : Int} {w w1 w2 : World} {d : Nat} {S : Nat → Prop} {s : DS} {r : DS × Int} {x : Ending} (h : Done B w d S s w1) (k : Told B w1 d (Sx S w w1) r x w2) {e : Int} (he : r.2 = e) : x = .returned (.int .i64 e) ∧ Done (B + 1) w d S r.1 w2 := by
  rw [← he]
  exact ⟨k.1, Done.trans h.2 k.2⟩
theorem Done.told2 {B : Int} {w w1 wx w2 : World} {d : Nat} {S : Nat → Prop} {s : DS} {r : DS × Int} {x : Ending} (h : Done B w d S s w1) (hb : Below w1.heap.size w1 wx) (k : Told B wx d (Sx S w w1) r x w2) {e : Int} (he : r.2 = e) : x = .returned (.int .i64 e) ∧ Done (B + 1) w d S r.1 w2 := by
  rw [← he]
  exact ⟨k.1, Done.trans h.2 (Done.trans0 (Fr.of_new hb) k.2)⟩
theorem Done.off {B : Int} {w w1 : World} {d : Nat} {S : Nat → Prop} {s : DS} (h : Done B w d S s w1) : ∀ k, w1.heap.size ≤ k → ¬ Sx S w w1 k := fun k hk e => by have := h.1.lt k e; omega
set_option maxHeartbeats 2000000 in
theorem first_any (w : World) : Calls Try.prog 10 #[] w fun e w' => e = .returned (.bool true) ∧ Below w.heap.size w w' := by
  have hst : (ByteArray.mk #[49, 50, 51, 52]).toList = [49, 50, 51, 52] := bs_toList [49, 50, 51, 52]
  have kc := fun (w : World) (C : Array Value) (n c : Nat) => Lib.run_convert_bytes_const (P := Try.prog) w 30 5 C n c Try.underlying30 Try.underlying5
  go_enter Try.func10, Try.ntmps10
  go_wp2_with (go_at_call 12; ((with_reducible refine (new_any 0 (Int.le_refl _) _).mono ?_); rintro e w1 ⟨d, rfl, hb1, hd1⟩; have HB1 := Lib.hid hb1; have HD1 := Lib.hid (Done.refl hd1); clear hb1 hd1))
  go_wp2_with fail
  go_at_call 32
  refine (create_any d _ 0 (by omega) newS [97] (by decide) w1 HD1.out.1).mono ?_
  rintro e w2 ht
  obtain ⟨rfl, hd⟩ := HD1.out.told ht ex_a
  have HD2 := Lib.hid hd
  clear ht hd HD1
  go_wp2_with fail
  go_at_call 32
  refine (create_any d _ (0 + 1) (by omega) ex1 [97] (by decide) w2 HD2.out.1).mono ?_
  rintro e w3 ht
  obtain ⟨rfl, hd⟩ := HD2.out.told ht ex_b
  have HD3 := Lib.hid hd
  clear ht hd HD2
  go_wp2_with fail
  go_at_call 33
  refine (append_any d _ (0 + 1 + 1) (by omega) ex2 [98] (by decide) none 0 [] (by decide) w3 HD3.out.1 ⟨rfl, Rd.nil _ _⟩ (fun k hk => by cases hk)).mono ?_
  rintro e w4 ht
  obtain ⟨rfl, hd⟩ := HD3.out.told ht ex_c
  have HD4 := Lib.hid hd
  clear ht hd HD3
  go_wp2_with fail
  have hbn : Below w4.heap.size w4 (w4.alloc (.cells #[.int .u8 49, .int .u8 50] 5 (2, 3))) := (Below.refl _ _).alloc (Nat.le_refl _) _
  have hrd : Rd8 (w4.alloc (.cells #[.int .u8 49, .int .u8 50] 5 (2, 3))) (some ⟨w4.heap.size, 0, none⟩) 2 2 [49, 50] := Rd8.lit w4 [49, 50] 2 rfl (by decide) 5 (2, 3)
  have HN := Lib.hid hbn
  have HR := Lib.hid hrd
  clear hbn hrd
  go_at_call 33
  refine (append_any d _ (0 + 1 + 1 + 1) (by omega) ex3 [97] (by decide) _ 2 [49, 50] (by decide) _ (HD4.out.1.below HN.out) HR.out (fun k hk => by cases hk; exact HD4.out.off _ (Nat.le_refl _))).mono ?_
  rintro e w5 ht
  obtain ⟨rfl, hd⟩ := HD4.out.told2 HN.out ht ex_e
  have HD5 := Lib.hid hd
  clear ht hd HD4 HN HR
  go_wp2_with fail
  go_at_call 14
  refine (sync_any d _ (0 + 1 + 1 + 1 + 1) (by omega) ex4 [97] (by decide) w5 HD5.out.1).mono ?_
  rintro e w6 ht
  obtain ⟨rfl, hd⟩ := HD5.out.told ht ex_f
  have HD6 := Lib.hid hd
  clear ht hd HD5
  go_wp2_with fail
  have hbn : Below w6.heap.size w6 (w6.alloc (.cells #[.int .u8 51, .int .u8 52, .int .u8 53] 5 (3, 4))) := (Below.refl _ _).alloc (Nat.le_refl _) _
  have hrd : Rd8 (w6.alloc (.cells #[.int .u8 51, .int .u8 52, .int .u8 53] 5 (3, 4))) (some ⟨w6.heap.size, 0, none⟩) 3 3 [51, 52, 53] := Rd8.lit w6 [51, 52, 53] 3 rfl (by decide) 5 (3, 4)
  have HN := Lib.hid hbn
  have HR := Lib.hid hrd
  clear hbn hrd
  go_at_call 33
  refine (append_any d _ (0 + 1 + 1 + 1 + 1 + 1) (by omega) ex5 [97] (by decide) _ 3 [51, 52, 53] (by decide) _ (HD6.out.1.below HN.out) HR.out (fun k hk => by cases hk; exact HD6.out.off _ (Nat.le_refl _))).mono ?_
  rintro e w7 ht
  obtain ⟨rfl, hd⟩ := HD6.out.told2 HN.out ht ex_g
  have HD7 := Lib.hid hd
  clear ht hd HD6 HN HR
  go_wp2_with fail
  have hbn : Below w7.heap.size w7 (w7.alloc (.cells #[.int .i64 2] 3)) := (Below.refl _ _).alloc (Nat.le_refl _) _
  have hrd : RdI (w7.alloc (.cells #[.int .i64 2] 3)) (some ⟨w7.heap.size, 0, none⟩) 1 1 [2] := ⟨rfl, Rd.one w7 _ 3, fun x hx => by simp at hx; omega⟩
  have HN := Lib.hid hbn
  have HR := Lib.hid hrd
  clear hbn hrd
  go_at_call 17
  refine (crash_any d _ _ ex6 _ 1 1 [2] _ (HD7.out.1.below HN.out) HR.out (fun _ k hk => by cases hk; exact HD7.out.off _ (Nat.le_refl _))).mono ?_
  rintro e w8 ⟨rfl, hd⟩
  have HD8 := Lib.hid (Done.trans HD7.out.2 (Done.trans0 (Fr.of_new HN.out) hd))
  clear hd HN HR HD7
  go_wp2_with fail
  go_at_call 15
  refine (read_any d _ _ ex7 [97] (by decide) w8 HD8.out.1).mono ?_
  rintro e w9 ⟨v, rfl, ho, hb⟩
  rw [ex_x] at ho
  rw [ex_h]
  obtain ⟨a9, cap9, rfl, hrd⟩ := ho.rd
  have kq : (convert 30 9 (.slice a9 4 cap9)).run Try.prog w9 = .ok (.string (bs [49, 50, 51, 52])) w9 := run_toStr (P := Try.prog) hrd 30 5 9 Try.underlying30 Try.underlying5 Try.underlying9
  have HD9 := Lib.hid (HD8.out.new hb)
  have hw := writes_any d _ _ ex7 w9 HD9.out.1
  rw [ex_w] at hw
  have HW := Lib.hid hw
  clear hb ho hrd HD8 hw
  go_wp2_with (go_at_call 22; ((with_reducible refine (HW.out).mono ?_); rintro e w' ⟨rfl, rfl⟩))
  go_ret
  exact ⟨rfl, HB1.out.trans (HD9.out.2.below (Nat.le_of_lt_succ (Nat.lt_succ_of_le HB1.out.size)) (fun k hk e => by omega))⟩
end Go.Proofs.Ytdbfkneklkdnaaa
