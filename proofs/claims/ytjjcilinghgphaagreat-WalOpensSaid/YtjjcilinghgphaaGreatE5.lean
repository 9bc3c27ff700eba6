/-
 The deeds of the disk's writes, each a function of its own. Written by a program (e5gen.py).
-/
import Derived.Test.YtjjcilinghgphaaGreatE4
import Derived.Test.YtjjcilinghgphaaGreatK4
import Derived.Deep.QuietTactic
import Derived.BigQuiet
namespace Go.Proofs.YtjjcilinghgphaaGreat
open Go.RowKit Go.Maps
set_option maxRecDepth 100000
attribute [local go_sem] bs_size

/-- A new file in the map. -/
def PutPost (w : World) (m : Nat) (L : List Cel) (n : List UInt8) (e : Ending) (w' : World) : Prop :=
 e = .returned (.tuple #[]) ∧ ((w.drew.alloc (.cells #[.slice none 0 0, .int .i64 0] 68))).grownBy w' (some m) ∧ ∃ k, w'.ownsMap Tryz.prog 9 ptrE m k ((mapOf L).put (.string n) (fileLit w.heap.size))
set_option maxHeartbeats 1000000 in
theorem create1_any (p q d m k : Nat) (L : List Cel) (n : List UInt8) (hn : n.length ≤ 9223372036854775807) (w : World) (k2 : w.cell? ⟨p, 0, none⟩ = some (.pointer (some ⟨d, 0, none⟩))) (k3 : w.cell? ⟨q, 0, none⟩ = some (.string (bs n)))
 (c0 : w.cell? ⟨d, 0, none⟩ = some (.map (some m))) (hm : w.ownsMap Tryz.prog 9 ptrE m k (mapOf L)) (hk : k < maxLen) :
 Calls Tryz.prog 74 #[.pointer (some ⟨p, 0, none⟩), .pointer (some ⟨q, 0, none⟩)] w (PutPost w m L n) := by
 have HM := Lib.hid hm
 clear hm
 go_enter Tryz.func74, Tryz.ntmps74
 go_wp2
 refine wp_region_ht 7 (fun W => W.cell? ⟨p, 0, none⟩ = some (.pointer (some ⟨d, 0, none⟩)) ∧ W.cell? ⟨q, 0, none⟩ = some (.string (bs n)) ∧ W.cell? ⟨d, 0, none⟩ = some (.map (some m))) (by kernel_rfl) (by kernel_rfl) ?_ (fun hHeld => ?_)
 · exact ⟨k2, k3, c0⟩
 try simp only [Act.put, List.setIfInBounds_toArray, List.set_cons_zero, List.set_cons_succ]
 refine wpHT_takeD (i := 0) (d := 2) (v := ?_) (by kernel_rfl) rfl rfl (by decide) (by kernel_rfl) (by kernel_rfl) (fun _ _ _ h => h) (Or.inl ⟨by kernel_rfl, ?_⟩) (by assumption) ?_
 rotate_left
 · intro w hSw; (try dsimp only at hSw); go_simp; (try with_reducible rfl)
 try simp only [Act.put, List.setIfInBounds_toArray, List.set_cons_zero, List.set_cons_succ]
 refine wpHT_takeD (i := 1) (d := 3) (v := ?_) (by kernel_rfl) rfl rfl (by decide) (by kernel_rfl) (by kernel_rfl) (fun _ _ _ h => h) (Or.inl ⟨by kernel_rfl, ?_⟩) (by assumption) ?_
 rotate_left
 · intro w hSw; (try dsimp only at hSw); go_simp; (try with_reducible rfl)
 try simp only [Act.put, List.setIfInBounds_toArray, List.set_cons_zero, List.set_cons_succ]
 refine wpHT_takeD (i := 2) (d := 4) (v := ?_) (by kernel_rfl) rfl rfl (by decide) (by kernel_rfl) (by kernel_rfl) (fun _ _ _ h => h) (Or.inl ⟨by kernel_rfl, ?_⟩) (by assumption) ?_
 rotate_left
 · intro w hSw; (try dsimp only at hSw); go_simp; (try with_reducible rfl)
 try simp only [Act.put, List.setIfInBounds_toArray, List.set_cons_zero, List.set_cons_succ]
 refine wpHT_takeD (i := 3) (d := 5) (v := ?_) (by kernel_rfl) rfl rfl (by decide) (by kernel_rfl) (by kernel_rfl) (fun _ _ _ h => h) (Or.inl ⟨by kernel_rfl, ?_⟩) (by assumption) ?_
 rotate_left
 · intro w hSw; (try dsimp only at hSw); go_simp; (try with_reducible rfl)
 try simp only [Act.put, List.setIfInBounds_toArray, List.set_cons_zero, List.set_cons_succ]
 refine wpHT_takeD (i := 4) (d := 6) (v := ?_) (by kernel_rfl) rfl rfl (by decide) (by kernel_rfl) (by kernel_rfl) (fun _ _ _ h => h) (Or.inl ⟨by kernel_rfl, ?_⟩) (by assumption) ?_
 rotate_left
 · intro w hSw; (try dsimp only at hSw); go_simp; (try with_reducible rfl)
 try simp only [Act.put, List.setIfInBounds_toArray, List.set_cons_zero, List.set_cons_succ]
 refine wpHT_takeD (i := 5) (d := 7) (v := ?_) (by kernel_rfl) rfl rfl (by decide) (by kernel_rfl) (by kernel_rfl) (fun _ _ _ h => h) (Or.inl ⟨by kernel_rfl, ?_⟩) (by assumption) ?_
 rotate_left
 · intro w hSw; (try dsimp only at hSw); go_simp; (try with_reducible rfl)
 try simp only [Act.put, List.setIfInBounds_toArray, List.set_cons_zero, List.set_cons_succ]
 refine wpHT_one (i := 6) (by kernel_rfl) rfl (by decide) (fun K hK => ?_)
 go_simp
 refine hK.out _ _ ?_ (fun hHeld => ?_)
 · exact ⟨cell_alloc_keep k2, cell_alloc_keep k3, cell_alloc_keep c0⟩
 clear hK K
 try simp only [Act.put, List.setIfInBounds_toArray, List.set_cons_zero, List.set_cons_succ]
 refine wpHT_done (by kernel_rfl) ?_
 simp only [List.drop_succ_cons, List.drop_zero]
 go_wp2_with (at_mapUpdate; refine wpList_mapUpdate_own _ rfl _ _ _ 64 rfl 9 63 strKeyed Tryz.underlying64 ptrE m k (mapOf L) rfl (ownsMap_block HM.out ((((Fr.refl (fun _ => False) w).drew).alloc _).block m HM.out.lt id)) hk _ _ (.string n) rfl rfl (keyS n hn) (fileLit w.heap.size) [] rfl ?_; intro w1 hown1 hgrow1)
 go_end0
 exact ⟨rfl, hgrow1, _, hown1⟩

theorem cell_set_keep {w : World} {a p : Addr} {u v : Value} (h : w.cell? a = some v) (hne : a ≠ p) : (w.setCell p u).cell? a = some v := by
 rw [World.cell?_setCell_other w p a u (fun e => hne e.symm)]; exact h
theorem look_at {w : World} {m k : Nat} {L : List Cel} {n : List UInt8} {c : Cel} (h : w.ownsMap Tryz.prog 9 ptrE m k (mapOf L)) (hn : n.length ≤ 9223372036854775807) (hg : getC n L = some c) :
 (Instr.lookup 64 (.map (some m)) (.string (bs n)) false).run Tryz.prog w = .ok (.pointer (some ⟨c.b, 0, none⟩)) w := by
 have := look_run h n hn
 rw [hg] at this; exact this
set_option maxHeartbeats 1000000 in
theorem sync1_any (p q d m k : Nat) (L : List Cel) (n : List UInt8) (hn : n.length ≤ 9223372036854775807) (c : Cel) (hg : getC n L = some c) (a : Option Addr) (dl cap : Nat) (sf : Int) (w : World) (k2 : w.cell? ⟨p, 0, none⟩ = some (.pointer (some ⟨d, 0, none⟩))) (k3 : w.cell? ⟨q, 0, none⟩ = some (.string (bs n)))
 (c0 : w.cell? ⟨d, 0, none⟩ = some (.map (some m))) (hm : w.ownsMap Tryz.prog 9 ptrE m k (mapOf L)) (hf : w.heap[c.b]? = some (.cells #[.slice a dl cap, .int .i64 sf] 68 (0, 0))) :
 Calls Tryz.prog 88 #[.pointer (some ⟨p, 0, none⟩), .pointer (some ⟨q, 0, none⟩)] w fun e w' => e = .returned (.tuple #[]) ∧ w.drew.setCell ⟨c.b, 1, none⟩ (.int .i64 dl) = w' := by
 have hl := look_at (w := w.drew) hm.drew hn hg
 have g0 : w.cell? ⟨c.b, 0, none⟩ = some (.slice a dl cap) := cell_of_row w c.b 0 _ _ _ hf
 have g1 : w.cell? ⟨c.b, 1, none⟩ = some (.int .i64 sf) := cell_of_row w c.b 1 _ _ _ hf
 have g2 := frozen_of_row w c.b 1 _ _ hf
 clear hm hf hg
 go_enter Tryz.func88, Tryz.ntmps88
 go_wp2
 refine wp_region_ht 18 (fun W => W.cell? ⟨p, 0, none⟩ = some (.pointer (some ⟨d, 0, none⟩)) ∧ W.cell? ⟨q, 0, none⟩ = some (.string (bs n)) ∧ W.cell? ⟨d, 0, none⟩ = some (.map (some m)) ∧ (Instr.lookup 64 (.map (some m)) (.string (bs n)) false).run Tryz.prog W = .ok (.pointer (some ⟨c.b, 0, none⟩)) W ∧ W.cell? ⟨c.b, 0, none⟩ = some (.slice a dl cap)) (by kernel_rfl) (by kernel_rfl) ?_ (fun hHeld => ?_)
 · exact ⟨k2, k3, c0, hl, g0⟩
 try simp only [Act.put, List.setIfInBounds_toArray, List.set_cons_zero, List.set_cons_succ]
 refine wpHT_takeD (i := 0) (d := 2) (v := ?_) (by kernel_rfl) rfl rfl (by decide) (by kernel_rfl) (by kernel_rfl) (fun _ _ _ h => h) (Or.inl ⟨by kernel_rfl, ?_⟩) (by assumption) ?_
 rotate_left
 · intro w hSw; (try dsimp only at hSw); go_simp; (try with_reducible rfl)
 try simp only [Act.put, List.setIfInBounds_toArray, List.set_cons_zero, List.set_cons_succ]
 refine wpHT_takeD (i := 1) (d := 3) (v := ?_) (by kernel_rfl) rfl rfl (by decide) (by kernel_rfl) (by kernel_rfl) (fun _ _ _ h => h) (Or.inl ⟨by kernel_rfl, ?_⟩) (by assumption) ?_
 rotate_left
 · intro w hSw; (try dsimp only at hSw); go_simp; (try with_reducible rfl)
 try simp only [Act.put, List.setIfInBounds_toArray, List.set_cons_zero, List.set_cons_succ]
 refine wpHT_takeD (i := 2) (d := 4) (v := ?_) (by kernel_rfl) rfl rfl (by decide) (by kernel_rfl) (by kernel_rfl) (fun _ _ _ h => h) (Or.inl ⟨by kernel_rfl, ?_⟩) (by assumption) ?_
 rotate_left
 · intro w hSw; (try dsimp only at hSw); go_simp; (try with_reducible rfl)
 try simp only [Act.put, List.setIfInBounds_toArray, List.set_cons_zero, List.set_cons_succ]
 refine wpHT_takeD (i := 3) (d := 5) (v := ?_) (by kernel_rfl) rfl rfl (by decide) (by kernel_rfl) (by kernel_rfl) (fun _ _ _ h => h) (Or.inl ⟨by kernel_rfl, ?_⟩) (by assumption) ?_
 rotate_left
 · intro w hSw; (try dsimp only at hSw); go_simp; (try with_reducible rfl)
 try simp only [Act.put, List.setIfInBounds_toArray, List.set_cons_zero, List.set_cons_succ]
 refine wpHT_takeD (i := 4) (d := 6) (v := ?_) (by kernel_rfl) rfl rfl (by decide) (by kernel_rfl) (by kernel_rfl) (fun _ _ _ h => h) (Or.inl ⟨by kernel_rfl, ?_⟩) (by assumption) ?_
 rotate_left
 · intro w hSw; (try dsimp only at hSw); go_simp; (try with_reducible rfl)
 try simp only [Act.put, List.setIfInBounds_toArray, List.set_cons_zero, List.set_cons_succ]
 refine wpHT_takeD (i := 5) (d := 7) (v := ?_) (by kernel_rfl) rfl rfl (by decide) (by kernel_rfl) (by kernel_rfl) (fun _ _ _ h => h) (Or.inl ⟨by kernel_rfl, ?_⟩) (by assumption) ?_
 rotate_left
 · intro w hSw; (try dsimp only at hSw); go_simp; (try with_reducible rfl)
 try simp only [Act.put, List.setIfInBounds_toArray, List.set_cons_zero, List.set_cons_succ]
 refine wpHT_takeD (i := 6) (d := 8) (v := ?_) (by kernel_rfl) rfl rfl (by decide) (by kernel_rfl) (by kernel_rfl) (fun _ _ _ h => h) (Or.inl ⟨by kernel_rfl, ?_⟩) (by assumption) ?_
 rotate_left
 · intro w hSw; (try dsimp only at hSw); go_simp; (try with_reducible rfl)
 try simp only [Act.put, List.setIfInBounds_toArray, List.set_cons_zero, List.set_cons_succ]
 refine wpHT_takeD (i := 7) (d := 9) (v := ?_) (by kernel_rfl) rfl rfl (by decide) (by kernel_rfl) (by kernel_rfl) (fun _ _ _ h => h) (Or.inl ⟨by kernel_rfl, ?_⟩) (by assumption) ?_
 rotate_left
 · intro w hSw; (try dsimp only at hSw); go_simp; (try with_reducible rfl)
 try simp only [Act.put, List.setIfInBounds_toArray, List.set_cons_zero, List.set_cons_succ]
 refine wpHT_takeD (i := 8) (d := 10) (v := ?_) (by kernel_rfl) rfl rfl (by decide) (by kernel_rfl) (by kernel_rfl) (fun _ _ _ h => h) (Or.inl ⟨by kernel_rfl, ?_⟩) (by assumption) ?_
 rotate_left
 · intro w hSw; (try dsimp only at hSw); go_simp; (try with_reducible rfl)
 try simp only [Act.put, List.setIfInBounds_toArray, List.set_cons_zero, List.set_cons_succ]
 refine wpHT_takeD (i := 9) (d := 11) (v := ?_) (by kernel_rfl) rfl rfl (by decide) (by kernel_rfl) (by kernel_rfl) (fun _ _ _ h => h) (Or.inl ⟨by kernel_rfl, ?_⟩) (by assumption) ?_
 rotate_left
 · intro w hSw; (try dsimp only at hSw); go_simp; (try with_reducible rfl)
 try simp only [Act.put, List.setIfInBounds_toArray, List.set_cons_zero, List.set_cons_succ]
 refine wpHT_takeD (i := 10) (d := 12) (v := ?_) (by kernel_rfl) rfl rfl (by decide) (by kernel_rfl) (by kernel_rfl) (fun _ _ _ h => h) (Or.inl ⟨by kernel_rfl, ?_⟩) (by assumption) ?_
 rotate_left
 · intro w hSw; (try dsimp only at hSw); go_simp; (try with_reducible rfl)
 try simp only [Act.put, List.setIfInBounds_toArray, List.set_cons_zero, List.set_cons_succ]
 refine wpHT_takeD (i := 11) (d := 13) (v := ?_) (by kernel_rfl) rfl rfl (by decide) (by kernel_rfl) (by kernel_rfl) (fun _ _ _ h => h) (Or.inl ⟨by kernel_rfl, ?_⟩) (by assumption) ?_
 rotate_left
 · intro w hSw; (try dsimp only at hSw); go_simp; (try with_reducible rfl)
 try simp only [Act.put, List.setIfInBounds_toArray, List.set_cons_zero, List.set_cons_succ]
 refine wpHT_takeD (i := 12) (d := 14) (v := ?_) (by kernel_rfl) rfl rfl (by decide) (by kernel_rfl) (by kernel_rfl) (fun _ _ _ h => h) (Or.inl ⟨by kernel_rfl, ?_⟩) (by assumption) ?_
 rotate_left
 · intro w hSw; (try dsimp only at hSw); go_simp; (try with_reducible rfl)
 try simp only [Act.put, List.setIfInBounds_toArray, List.set_cons_zero, List.set_cons_succ]
 refine wpHT_takeD (i := 13) (d := 15) (v := ?_) (by kernel_rfl) rfl rfl (by decide) (by kernel_rfl) (by kernel_rfl) (fun _ _ _ h => h) (Or.inl ⟨by kernel_rfl, ?_⟩) (by assumption) ?_
 rotate_left
 · intro w hSw; (try dsimp only at hSw); go_simp; (try with_reducible rfl)
 try simp only [Act.put, List.setIfInBounds_toArray, List.set_cons_zero, List.set_cons_succ]
 refine wpHT_takeD (i := 14) (d := 16) (v := ?_) (by kernel_rfl) rfl rfl (by decide) (by kernel_rfl) (by kernel_rfl) (fun _ _ _ h => h) (Or.inl ⟨by kernel_rfl, ?_⟩) (by assumption) ?_
 rotate_left
 · intro w hSw; (try dsimp only at hSw); go_simp; (try with_reducible rfl)
 try simp only [Act.put, List.setIfInBounds_toArray, List.set_cons_zero, List.set_cons_succ]
 refine wpHT_takeD (i := 15) (d := 17) (v := ?_) (by kernel_rfl) rfl rfl (by decide) (by kernel_rfl) (by kernel_rfl) (fun _ _ _ h => h) (Or.inl ⟨by kernel_rfl, ?_⟩) (by assumption) ?_
 rotate_left
 · intro w hSw; (try dsimp only at hSw); go_simp; (try with_reducible rfl)
 try simp only [Act.put, List.setIfInBounds_toArray, List.set_cons_zero, List.set_cons_succ]
 refine wpHT_takeD (i := 16) (d := 18) (v := ?_) (by kernel_rfl) rfl rfl (by decide) (by kernel_rfl) (by kernel_rfl) (fun _ _ _ h => h) (Or.inl ⟨by kernel_rfl, ?_⟩) (by assumption) ?_
 rotate_left
 · intro w hSw; (try dsimp only at hSw); go_simp; (try with_reducible rfl)
 try simp only [Act.put, List.setIfInBounds_toArray, List.set_cons_zero, List.set_cons_succ]
 refine wpHT_takeD (i := 17) (d := 19) (v := ?_) (by kernel_rfl) rfl rfl (by decide) (by kernel_rfl) (by kernel_rfl) (fun _ _ _ h => h) (Or.inl ⟨by kernel_rfl, ?_⟩) (by assumption) ?_
 rotate_left
 · intro w hSw; (try dsimp only at hSw); go_simp; (try with_reducible rfl)
 try simp only [Act.put, List.setIfInBounds_toArray, List.set_cons_zero, List.set_cons_succ]
 refine wpHT_done (by kernel_rfl) ?_
 simp only [List.drop_succ_cons, List.drop_zero]
 clear hHeld hl
 go_wp2
 go_end0
 exact ⟨rfl, rfl⟩
theorem infoU8 : (Tryz.prog.info? 5).map (fun i => (i.zero, i.size, i.bytes)) = some (some (.int .u8 0), 1, 1) := by kernel_rfl
/-- A slice from the head of a block, or none. -/
def AtHead (a : Option Addr) : Prop := a = none ∨ ∃ r, a = some ⟨r, 0, none⟩
theorem run_cut {w : World} {a : Option Addr} {n cap : Nat} {x : Nat} (hnc : n ≤ cap) (hk : x ≤ n) (ha : AtHead a) :
 (Instr.slice 24 (.slice a n cap) none (some (.int .i64 x)) (some (.int .i64 x))).run Tryz.prog w = .ok (.slice a x x) w := by
 obtain ⟨i, hi0, hi1, hi2, hi3⟩ := info_parts infoU8
 have e1 : x ≤ cap := by omega
 have e2 : Option.map (fun x => x.add 0) a = a := by
  rcases ha with rfl | ⟨r, rfl⟩
  · rfl
  · simp [Addr.add_none]
 simp [Instr.slice, run_underlying Tryz.underlying24, Instr.sliceBounds, Instr.sliceBound, asIntOf, sizeOf, typeInfo, hi0, e1, e2]
set_option maxHeartbeats 1000000 in
theorem cut1_any (wr ar : Int) (dn : Bool) (a : Option Addr) (ha : AtHead a) (p q r d m k : Nat) (L : List Cel) (n : List UInt8) (hn : n.length ≤ 9223372036854775807) (c : Cel) (hg : getC n L = some c) (dl cap : Nat) (sf sz : Int) (x : Nat) (hx : x ≤ dl) (hdc : dl ≤ cap) (hcap : cap ≤ 9223372036854775807) (h0 : 0 ≤ sf) (hz : sz ≤ 4194304) (hdz : (dl : Int) ≤ sz) (w : World) (k2 : w.cell? ⟨p, 0, none⟩ = some (.pointer (some ⟨d, 0, none⟩))) (k3 : w.cell? ⟨q, 0, none⟩ = some (.string (bs n))) (k4 : w.cell? ⟨r, 0, none⟩ = some (.int .i64 x))
 (hd : w.heap[d]? = some (.cells #[.map (some m), .int .i64 sz, .int .i64 wr, .int .i64 ar, .bool dn] 66 (0, 0))) (hm : w.ownsMap Tryz.prog 9 ptrE m k (mapOf L)) (hf : w.heap[c.b]? = some (.cells #[.slice a dl cap, .int .i64 sf] 68 (0, 0)))
 (npd : p ≠ d) (nqd : q ≠ d) (nrd : r ≠ d) (npc : p ≠ c.b) (nqc : q ≠ c.b) (nrc : r ≠ c.b) (ncd : c.b ≠ d) :
 Calls Tryz.prog 99 #[.pointer (some ⟨p, 0, none⟩), .pointer (some ⟨q, 0, none⟩), .pointer (some ⟨r, 0, none⟩)] w fun e w' => e = .returned (.tuple #[]) ∧
  Fr (fun k => k = d ∨ k = c.b) w w' ∧ w'.heap[d]? = some (.cells #[.map (some m), .int .i64 (sz - (dl - x)), .int .i64 wr, .int .i64 ar, .bool dn] 66 (0, 0)) ∧ w'.heap[c.b]? = some (.cells #[.slice a x x, .int .i64 (min sf x)] 68 (0, 0)) := by
 have HL : Hid (∀ W : World, W.heap = w.heap → (Instr.lookup 64 (.map (some m)) (.string (bs n)) false).run Tryz.prog W = .ok (.pointer (some ⟨c.b, 0, none⟩)) W) := fun W hW => look_at (ownsMap_block hm (by rw [hW])) hn hg
 have HS : Hid (∀ W : World, (Instr.slice 24 (.slice a dl cap) none (some (.int .i64 x)) (some (.int .i64 x))).run Tryz.prog W = .ok (.slice a x x) W) := fun W => run_cut hdc hx ha
 have HD := Lib.hid hd
 have HF := Lib.hid hf
 clear hm hg hd hf
 go_enter Tryz.func99, Tryz.ntmps99
 go_wp2
 refine wp_region_ht 6 (fun W => W.cell? ⟨p, 0, none⟩ = some (.pointer (some ⟨d, 0, none⟩)) ∧ W.cell? ⟨q, 0, none⟩ = some (.string (bs n)) ∧ W.cell? ⟨r, 0, none⟩ = some (.int .i64 x) ∧ W.cell? ⟨d, 0, none⟩ = some (.map (some m)) ∧ W.cell? ⟨d, 1, none⟩ = some (.int .i64 sz) ∧ W.cell? ⟨c.b, 0, none⟩ = some (.slice a dl cap) ∧ (Instr.lookup 64 (.map (some m)) (.string (bs n)) false).run Tryz.prog W = .ok (.pointer (some ⟨c.b, 0, none⟩)) W) (by kernel_rfl) (by kernel_rfl) ?_ (fun hHeld => ?_)
 · exact ⟨k2, k3, k4, cell_of_row w d 0 _ _ _ HD.out, cell_of_row w d 1 _ _ _ HD.out, cell_of_row w c.b 0 _ _ _ HF.out, HL.out _ rfl⟩
 try simp only [Act.put, List.setIfInBounds_toArray, List.set_cons_zero, List.set_cons_succ]
 refine wpHT_takeD (i := 0) (d := 4) (v := ?_) (by kernel_rfl) rfl rfl (by decide) (by kernel_rfl) (by kernel_rfl) (fun _ _ _ h => h) (Or.inl ⟨by kernel_rfl, ?_⟩) (by assumption) ?_
 rotate_left
 · intro w hSw; (try dsimp only at hSw); go_simp; (try with_reducible rfl)
 try simp only [Act.put, List.setIfInBounds_toArray, List.set_cons_zero, List.set_cons_succ]
 refine wpHT_takeD (i := 1) (d := 5) (v := ?_) (by kernel_rfl) rfl rfl (by decide) (by kernel_rfl) (by kernel_rfl) (fun _ _ _ h => h) (Or.inl ⟨by kernel_rfl, ?_⟩) (by assumption) ?_
 rotate_left
 · intro w hSw; (try dsimp only at hSw); go_simp; (try with_reducible rfl)
 try simp only [Act.put, List.setIfInBounds_toArray, List.set_cons_zero, List.set_cons_succ]
 refine wpHT_takeD (i := 2) (d := 6) (v := ?_) (by kernel_rfl) rfl rfl (by decide) (by kernel_rfl) (by kernel_rfl) (fun _ _ _ h => h) (Or.inl ⟨by kernel_rfl, ?_⟩) (by assumption) ?_
 rotate_left
 · intro w hSw; (try dsimp only at hSw); go_simp; (try with_reducible rfl)
 try simp only [Act.put, List.setIfInBounds_toArray, List.set_cons_zero, List.set_cons_succ]
 refine wpHT_takeD (i := 3) (d := 7) (v := ?_) (by kernel_rfl) rfl rfl (by decide) (by kernel_rfl) (by kernel_rfl) (fun _ _ _ h => h) (Or.inl ⟨by kernel_rfl, ?_⟩) (by assumption) ?_
 rotate_left
 · intro w hSw; (try dsimp only at hSw); go_simp; (try with_reducible rfl)
 try simp only [Act.put, List.setIfInBounds_toArray, List.set_cons_zero, List.set_cons_succ]
 refine wpHT_takeD (i := 4) (d := 8) (v := ?_) (by kernel_rfl) rfl rfl (by decide) (by kernel_rfl) (by kernel_rfl) (fun _ _ _ h => h) (Or.inl ⟨by kernel_rfl, ?_⟩) (by assumption) ?_
 rotate_left
 · intro w hSw; (try dsimp only at hSw); go_simp; (try with_reducible rfl)
 try simp only [Act.put, List.setIfInBounds_toArray, List.set_cons_zero, List.set_cons_succ]
 refine wpHT_takeD (i := 5) (d := 9) (v := ?_) (by kernel_rfl) rfl rfl (by decide) (by kernel_rfl) (by kernel_rfl) (fun _ _ _ h => h) (Or.inl ⟨by kernel_rfl, ?_⟩) (by assumption) ?_
 rotate_left
 · intro w hSw; (try dsimp only at hSw); go_simp; (try with_reducible rfl)
 try simp only [Act.put, List.setIfInBounds_toArray, List.set_cons_zero, List.set_cons_succ]
 refine wpHT_done (by kernel_rfl) ?_
 simp only [List.drop_succ_cons, List.drop_zero]
 clear hHeld
 go_wp2
 generalize e1 : w.drew = w1
 have F1 : Hid (w1.heap = w.heap) := by rw [← e1]; exact rfl
 have G1 : Hid (Fr (fun k => k = d ∨ k = c.b) w w1) := by rw [← e1]; exact (Fr.refl _ w).drew
 have HD1 : Hid (w1.heap[d]? = some (.cells #[.map (some m), .int .i64 sz, .int .i64 wr, .int .i64 ar, .bool dn] 66 (0, 0))) := by rw [F1.out]; exact HD.out
 have HF1 : Hid (w1.heap[c.b]? = some (.cells #[.slice a dl cap, .int .i64 sf] 68 (0, 0))) := by rw [F1.out]; exact HF.out
 have j2 : w1.cell? ⟨p, 0, none⟩ = some (.pointer (some ⟨d, 0, none⟩)) := by rw [← e1]; exact k2
 have j3 : w1.cell? ⟨q, 0, none⟩ = some (.string (bs n)) := by rw [← e1]; exact k3
 have j4 : w1.cell? ⟨r, 0, none⟩ = some (.int .i64 x) := by rw [← e1]; exact k4
 clear k2 k3 k4 e1 HL
 have o1 : IntKind.i64.wrap ((dl : Int) - (x : Int)) = (dl : Int) - (x : Int) := IntWalk.i64_in _ (by omega)
 have o2 : IntKind.i64.wrap (sz - ((dl : Int) - (x : Int))) = sz - ((dl : Int) - (x : Int)) := IntWalk.i64_in _ (by omega)
 have f1 := frozen_of_row w1 d 1 _ _ HD1.out
 refine wp_region_ht 14 (fun W => W.cell? ⟨p, 0, none⟩ = some (.pointer (some ⟨d, 0, none⟩)) ∧ W.cell? ⟨r, 0, none⟩ = some (.int .i64 x) ∧ W.cell? ⟨d, 1, none⟩ = some (.int .i64 sz) ∧ W.cell? ⟨c.b, 0, none⟩ = some (.slice a dl cap)) (by kernel_rfl) (by kernel_rfl) ?_ (fun hHeld => ?_)
 · exact ⟨j2, j4, cell_of_row w1 d 1 _ _ _ HD1.out, cell_of_row w1 c.b 0 _ _ _ HF1.out⟩
 try simp only [Act.put, List.setIfInBounds_toArray, List.set_cons_zero, List.set_cons_succ]
 refine wpHT_takeD (i := 0) (d := 10) (v := ?_) (by kernel_rfl) rfl rfl (by decide) (by kernel_rfl) (by kernel_rfl) (fun _ _ _ h => h) (Or.inl ⟨by kernel_rfl, ?_⟩) (by assumption) ?_
 rotate_left
 · intro w hSw; (try dsimp only at hSw); go_simp; (try with_reducible rfl)
 try simp only [Act.put, List.setIfInBounds_toArray, List.set_cons_zero, List.set_cons_succ]
 refine wpHT_takeD (i := 1) (d := 11) (v := ?_) (by kernel_rfl) rfl rfl (by decide) (by kernel_rfl) (by kernel_rfl) (fun _ _ _ h => h) (Or.inl ⟨by kernel_rfl, ?_⟩) (by assumption) ?_
 rotate_left
 · intro w hSw; (try dsimp only at hSw); go_simp; (try with_reducible rfl)
 try simp only [Act.put, List.setIfInBounds_toArray, List.set_cons_zero, List.set_cons_succ]
 refine wpHT_takeD (i := 2) (d := 12) (v := ?_) (by kernel_rfl) rfl rfl (by decide) (by kernel_rfl) (by kernel_rfl) (fun _ _ _ h => h) (Or.inl ⟨by kernel_rfl, ?_⟩) (by assumption) ?_
 rotate_left
 · intro w hSw; (try dsimp only at hSw); go_simp; (try with_reducible rfl)
 try simp only [Act.put, List.setIfInBounds_toArray, List.set_cons_zero, List.set_cons_succ]
 refine wpHT_takeD (i := 3) (d := 13) (v := ?_) (by kernel_rfl) rfl rfl (by decide) (by kernel_rfl) (by kernel_rfl) (fun _ _ _ h => h) (Or.inl ⟨by kernel_rfl, ?_⟩) (by assumption) ?_
 rotate_left
 · intro w hSw; (try dsimp only at hSw); go_simp; (try with_reducible rfl)
 try simp only [Act.put, List.setIfInBounds_toArray, List.set_cons_zero, List.set_cons_succ]
 refine wpHT_takeD (i := 4) (d := 14) (v := ?_) (by kernel_rfl) rfl rfl (by decide) (by kernel_rfl) (by kernel_rfl) (fun _ _ _ h => h) (Or.inl ⟨by kernel_rfl, ?_⟩) (by assumption) ?_
 rotate_left
 · intro w hSw; (try dsimp only at hSw); go_simp; (try with_reducible rfl)
 try simp only [Act.put, List.setIfInBounds_toArray, List.set_cons_zero, List.set_cons_succ]
 refine wpHT_takeD (i := 5) (d := 15) (v := ?_) (by kernel_rfl) rfl rfl (by decide) (by kernel_rfl) (by kernel_rfl) (fun _ _ _ h => h) (Or.inl ⟨by kernel_rfl, ?_⟩) (by assumption) ?_
 rotate_left
 · intro w hSw; (try dsimp only at hSw); go_simp; (try with_reducible rfl)
 try simp only [Act.put, List.setIfInBounds_toArray, List.set_cons_zero, List.set_cons_succ]
 refine wpHT_takeD (i := 6) (d := 16) (v := ?_) (by kernel_rfl) rfl rfl (by decide) (by kernel_rfl) (by kernel_rfl) (fun _ _ _ h => h) (Or.inl ⟨by kernel_rfl, ?_⟩) (by assumption) ?_
 rotate_left
 · intro w hSw; (try dsimp only at hSw); go_simp; (try with_reducible rfl)
 try simp only [Act.put, List.setIfInBounds_toArray, List.set_cons_zero, List.set_cons_succ]
 refine wpHT_takeD (i := 7) (d := 17) (v := ?_) (by kernel_rfl) rfl rfl (by decide) (by kernel_rfl) (by kernel_rfl) (fun _ _ _ h => h) (Or.inl ⟨by kernel_rfl, ?_⟩) (by assumption) ?_
 rotate_left
 · intro w hSw; (try dsimp only at hSw); go_simp; (try with_reducible rfl)
 try simp only [Act.put, List.setIfInBounds_toArray, List.set_cons_zero, List.set_cons_succ]
 refine wpHT_takeD (i := 8) (d := 18) (v := ?_) (by kernel_rfl) rfl rfl (by decide) (by kernel_rfl) (by kernel_rfl) (fun _ _ _ h => h) (Or.inl ⟨by kernel_rfl, ?_⟩) (by assumption) ?_
 rotate_left
 · intro w hSw; (try dsimp only at hSw); go_simp; (try with_reducible rfl)
 try simp only [Act.put, List.setIfInBounds_toArray, List.set_cons_zero, List.set_cons_succ]
 refine wpHT_takeD (i := 9) (d := 19) (v := ?_) (by kernel_rfl) rfl rfl (by decide) (by kernel_rfl) (by kernel_rfl) (fun _ _ _ h => h) (Or.inl ⟨by kernel_rfl, ?_⟩) (by assumption) ?_
 rotate_left
 · intro w hSw; (try dsimp only at hSw); go_simp; (try with_reducible rfl)
 try simp only [Act.put, List.setIfInBounds_toArray, List.set_cons_zero, List.set_cons_succ]
 refine wpHT_takeD (i := 10) (d := 20) (v := ?_) (by kernel_rfl) rfl rfl (by decide) (by kernel_rfl) (by kernel_rfl) (fun _ _ _ h => h) (Or.inl ⟨by kernel_rfl, ?_⟩) (by assumption) ?_
 rotate_left
 · intro w hSw; (try dsimp only at hSw); go_simp; (try with_reducible rfl)
 try simp only [Act.put, List.setIfInBounds_toArray, List.set_cons_zero, List.set_cons_succ]
 refine wpHT_takeD (i := 11) (d := 21) (v := ?_) (by kernel_rfl) rfl rfl (by decide) (by kernel_rfl) (by kernel_rfl) (fun _ _ _ h => h) (Or.inl ⟨by kernel_rfl, ?_⟩) (by assumption) ?_
 rotate_left
 · intro w hSw; (try dsimp only at hSw); go_simp; (try with_reducible rfl)
 try simp only [Act.put, List.setIfInBounds_toArray, List.set_cons_zero, List.set_cons_succ]
 refine wpHT_takeD (i := 12) (d := 22) (v := ?_) (by kernel_rfl) rfl rfl (by decide) (by kernel_rfl) (by kernel_rfl) (fun _ _ _ h => h) (Or.inl ⟨by kernel_rfl, ?_⟩) (by assumption) ?_
 rotate_left
 · intro w hSw; (try dsimp only at hSw); go_simp; (try with_reducible rfl)
 try simp only [Act.put, List.setIfInBounds_toArray, List.set_cons_zero, List.set_cons_succ]
 refine wpHT_takeD (i := 13) (d := 23) (v := ?_) (by kernel_rfl) rfl rfl (by decide) (by kernel_rfl) (by kernel_rfl) (fun _ _ _ h => h) (Or.inl ⟨by kernel_rfl, ?_⟩) (by assumption) ?_
 rotate_left
 · intro w hSw; (try dsimp only at hSw); go_simp; (try with_reducible rfl)
 try simp only [Act.put, List.setIfInBounds_toArray, List.set_cons_zero, List.set_cons_succ]
 refine wpHT_done (by kernel_rfl) ?_
 simp only [List.drop_succ_cons, List.drop_zero]
 clear hHeld o1 o2
 have c1 := cell_of_row w1 d 1 _ _ _ HD1.out
 go_wp2_with fail
 clear c1 f1
 generalize e2 : (w1.setCell ⟨d, 1, none⟩ (.int .i64 (sz - ((dl : Int) - (x : Int))))).drew = w2
 have G2 : Hid (Fr (fun k => k = d ∨ k = c.b) w w2) := by rw [← e2]; exact G1.out.drew.setCell (fun _ => .inl rfl) _
 have HD2 : Hid (w2.heap[d]? = some (.cells #[.map (some m), .int .i64 (sz - ((dl : Int) - (x : Int))), .int .i64 wr, .int .i64 ar, .bool dn] 66 (0, 0))) := by rw [← e2]; exact row_set (w := w1.drew) HD1.out rfl
 have HF2 : Hid (w2.heap[c.b]? = some (.cells #[.slice a dl cap, .int .i64 sf] 68 (0, 0))) := by rw [← e2]; exact (heap_setCell_other w1 ⟨d, 1, none⟩ c.b _ ncd).trans HF1.out
 have i4 : w2.cell? ⟨r, 0, none⟩ = some (.int .i64 x) := by rw [← e2]; exact cell_set_keep (w := w1.drew) j4 (fun e => nrd (congrArg Addr.block e))
 clear j2 j3 j4 e2 HD1 HF1 G1 F1
 have f1 := frozen_of_row w2 c.b 0 _ _ HF2.out
 have hs := HS.out
 refine wp_region_ht 10 (fun W => W.cell? ⟨r, 0, none⟩ = some (.int .i64 x) ∧ W.cell? ⟨c.b, 0, none⟩ = some (.slice a dl cap)) (by kernel_rfl) (by kernel_rfl) ?_ (fun hHeld => ?_)
 · exact ⟨i4, cell_of_row w2 c.b 0 _ _ _ HF2.out⟩
 try simp only [Act.put, List.setIfInBounds_toArray, List.set_cons_zero, List.set_cons_succ]
 refine wpHT_takeD (i := 0) (d := 24) (v := ?_) (by kernel_rfl) rfl rfl (by decide) (by kernel_rfl) (by kernel_rfl) (fun _ _ _ h => h) (Or.inl ⟨by kernel_rfl, ?_⟩) (by assumption) ?_
 rotate_left
 · intro w hSw; (try dsimp only at hSw); go_simp; (try with_reducible rfl)
 try simp only [Act.put, List.setIfInBounds_toArray, List.set_cons_zero, List.set_cons_succ]
 refine wpHT_takeD (i := 1) (d := 25) (v := ?_) (by kernel_rfl) rfl rfl (by decide) (by kernel_rfl) (by kernel_rfl) (fun _ _ _ h => h) (Or.inl ⟨by kernel_rfl, ?_⟩) (by assumption) ?_
 rotate_left
 · intro w hSw; (try dsimp only at hSw); go_simp; (try with_reducible rfl)
 try simp only [Act.put, List.setIfInBounds_toArray, List.set_cons_zero, List.set_cons_succ]
 refine wpHT_takeD (i := 2) (d := 26) (v := ?_) (by kernel_rfl) rfl rfl (by decide) (by kernel_rfl) (by kernel_rfl) (fun _ _ _ h => h) (Or.inl ⟨by kernel_rfl, ?_⟩) (by assumption) ?_
 rotate_left
 · intro w hSw; (try dsimp only at hSw); go_simp; (try with_reducible rfl)
 try simp only [Act.put, List.setIfInBounds_toArray, List.set_cons_zero, List.set_cons_succ]
 refine wpHT_takeD (i := 3) (d := 27) (v := ?_) (by kernel_rfl) rfl rfl (by decide) (by kernel_rfl) (by kernel_rfl) (fun _ _ _ h => h) (Or.inl ⟨by kernel_rfl, ?_⟩) (by assumption) ?_
 rotate_left
 · intro w hSw; (try dsimp only at hSw); go_simp; (try with_reducible rfl)
 try simp only [Act.put, List.setIfInBounds_toArray, List.set_cons_zero, List.set_cons_succ]
 refine wpHT_takeD (i := 4) (d := 28) (v := ?_) (by kernel_rfl) rfl rfl (by decide) (by kernel_rfl) (by kernel_rfl) (fun _ _ _ h => h) (Or.inl ⟨by kernel_rfl, ?_⟩) (by assumption) ?_
 rotate_left
 · intro w hSw; (try dsimp only at hSw); go_simp; (try with_reducible rfl)
 try simp only [Act.put, List.setIfInBounds_toArray, List.set_cons_zero, List.set_cons_succ]
 refine wpHT_takeD (i := 5) (d := 29) (v := ?_) (by kernel_rfl) rfl rfl (by decide) (by kernel_rfl) (by kernel_rfl) (fun _ _ _ h => h) (Or.inl ⟨by kernel_rfl, ?_⟩) (by assumption) ?_
 rotate_left
 · intro w hSw; (try dsimp only at hSw); go_simp; (try with_reducible rfl)
 try simp only [Act.put, List.setIfInBounds_toArray, List.set_cons_zero, List.set_cons_succ]
 refine wpHT_takeD (i := 6) (d := 30) (v := ?_) (by kernel_rfl) rfl rfl (by decide) (by kernel_rfl) (by kernel_rfl) (fun _ _ _ h => h) (Or.inl ⟨by kernel_rfl, ?_⟩) (by assumption) ?_
 rotate_left
 · intro w hSw; (try dsimp only at hSw); go_simp; (try with_reducible rfl)
 try simp only [Act.put, List.setIfInBounds_toArray, List.set_cons_zero, List.set_cons_succ]
 refine wpHT_takeD (i := 7) (d := 31) (v := ?_) (by kernel_rfl) rfl rfl (by decide) (by kernel_rfl) (by kernel_rfl) (fun _ _ _ h => h) (Or.inl ⟨by kernel_rfl, ?_⟩) (by assumption) ?_
 rotate_left
 · intro w hSw; (try dsimp only at hSw); go_simp; (try with_reducible rfl)
 try simp only [Act.put, List.setIfInBounds_toArray, List.set_cons_zero, List.set_cons_succ]
 refine wpHT_takeD (i := 8) (d := 32) (v := ?_) (by kernel_rfl) rfl rfl (by decide) (by kernel_rfl) (by kernel_rfl) (fun _ _ _ h => h) (Or.inl ⟨by kernel_rfl, ?_⟩) (by assumption) ?_
 rotate_left
 · intro w hSw; (try dsimp only at hSw); go_simp; (try with_reducible rfl)
 try simp only [Act.put, List.setIfInBounds_toArray, List.set_cons_zero, List.set_cons_succ]
 refine wpHT_takeD (i := 9) (d := 33) (v := ?_) (by kernel_rfl) rfl rfl (by decide) (by kernel_rfl) (by kernel_rfl) (fun _ _ _ h => h) (Or.inl ⟨by kernel_rfl, ?_⟩) (by assumption) ?_
 rotate_left
 · intro w hSw; (try dsimp only at hSw); go_simp; (try with_reducible rfl)
 try simp only [Act.put, List.setIfInBounds_toArray, List.set_cons_zero, List.set_cons_succ]
 refine wpHT_done (by kernel_rfl) ?_
 simp only [List.drop_succ_cons, List.drop_zero]
 clear hHeld hs HS
 have c1 := cell_of_row w2 c.b 0 _ _ _ HF2.out
 go_wp2_with fail
 clear c1 f1
 generalize e3 : (w2.setCell ⟨c.b, 0, none⟩ (.slice a x x)).drew = w3
 have G3 : Hid (Fr (fun k => k = d ∨ k = c.b) w w3) := by rw [← e3]; exact G2.out.drew.setCell (fun _ => .inr rfl) _
 have HD3 : Hid (w3.heap[d]? = some (.cells #[.map (some m), .int .i64 (sz - ((dl : Int) - (x : Int))), .int .i64 wr, .int .i64 ar, .bool dn] 66 (0, 0))) := by rw [← e3]; exact (heap_setCell_other w2 ⟨c.b, 0, none⟩ d _ (Ne.symm ncd)).trans HD2.out
 have HF3 : Hid (w3.heap[c.b]? = some (.cells #[.slice a x x, .int .i64 sf] 68 (0, 0))) := by rw [← e3]; exact row_set (w := w2.drew) HF2.out rfl
 have h4 : w3.cell? ⟨r, 0, none⟩ = some (.int .i64 x) := by rw [← e3]; exact cell_set_keep (w := w2.drew) i4 (fun e => nrc (congrArg Addr.block e))
 clear i4 e3 HD2 HF2 G2
 have f1 := frozen_of_row w3 c.b 1 _ _ HF3.out
 refine wp_region_ht 9 (fun W => W.cell? ⟨r, 0, none⟩ = some (.int .i64 x) ∧ W.cell? ⟨c.b, 1, none⟩ = some (.int .i64 sf)) (by kernel_rfl) (by kernel_rfl) ?_ (fun hHeld => ?_)
 · exact ⟨h4, cell_of_row w3 c.b 1 _ _ _ HF3.out⟩
 try simp only [Act.put, List.setIfInBounds_toArray, List.set_cons_zero, List.set_cons_succ]
 refine wpHT_takeD (i := 0) (d := 34) (v := ?_) (by kernel_rfl) rfl rfl (by decide) (by kernel_rfl) (by kernel_rfl) (fun _ _ _ h => h) (Or.inl ⟨by kernel_rfl, ?_⟩) (by assumption) ?_
 rotate_left
 · intro w hSw; (try dsimp only at hSw); go_simp; (try with_reducible rfl)
 try simp only [Act.put, List.setIfInBounds_toArray, List.set_cons_zero, List.set_cons_succ]
 refine wpHT_takeD (i := 1) (d := 35) (v := ?_) (by kernel_rfl) rfl rfl (by decide) (by kernel_rfl) (by kernel_rfl) (fun _ _ _ h => h) (Or.inl ⟨by kernel_rfl, ?_⟩) (by assumption) ?_
 rotate_left
 · intro w hSw; (try dsimp only at hSw); go_simp; (try with_reducible rfl)
 try simp only [Act.put, List.setIfInBounds_toArray, List.set_cons_zero, List.set_cons_succ]
 refine wpHT_takeD (i := 2) (d := 36) (v := ?_) (by kernel_rfl) rfl rfl (by decide) (by kernel_rfl) (by kernel_rfl) (fun _ _ _ h => h) (Or.inl ⟨by kernel_rfl, ?_⟩) (by assumption) ?_
 rotate_left
 · intro w hSw; (try dsimp only at hSw); go_simp; (try with_reducible rfl)
 try simp only [Act.put, List.setIfInBounds_toArray, List.set_cons_zero, List.set_cons_succ]
 refine wpHT_takeD (i := 3) (d := 37) (v := ?_) (by kernel_rfl) rfl rfl (by decide) (by kernel_rfl) (by kernel_rfl) (fun _ _ _ h => h) (Or.inl ⟨by kernel_rfl, ?_⟩) (by assumption) ?_
 rotate_left
 · intro w hSw; (try dsimp only at hSw); go_simp; (try with_reducible rfl)
 try simp only [Act.put, List.setIfInBounds_toArray, List.set_cons_zero, List.set_cons_succ]
 refine wpHT_takeD (i := 4) (d := 38) (v := ?_) (by kernel_rfl) rfl rfl (by decide) (by kernel_rfl) (by kernel_rfl) (fun _ _ _ h => h) (Or.inl ⟨by kernel_rfl, ?_⟩) (by assumption) ?_
 rotate_left
 · intro w hSw; (try dsimp only at hSw); go_simp; (try with_reducible rfl)
 try simp only [Act.put, List.setIfInBounds_toArray, List.set_cons_zero, List.set_cons_succ]
 refine wpHT_takeD (i := 5) (d := 39) (v := ?_) (by kernel_rfl) rfl rfl (by decide) (by kernel_rfl) (by kernel_rfl) (fun _ _ _ h => h) (Or.inl ⟨by kernel_rfl, ?_⟩) (by assumption) ?_
 rotate_left
 · intro w hSw; (try dsimp only at hSw); go_simp; (try with_reducible rfl)
 try simp only [Act.put, List.setIfInBounds_toArray, List.set_cons_zero, List.set_cons_succ]
 refine wpHT_takeD (i := 6) (d := 40) (v := ?_) (by kernel_rfl) rfl rfl (by decide) (by kernel_rfl) (by kernel_rfl) (fun _ _ _ h => h) (Or.inl ⟨by kernel_rfl, ?_⟩) (by assumption) ?_
 rotate_left
 · intro w hSw; (try dsimp only at hSw); go_simp; (try with_reducible rfl)
 try simp only [Act.put, List.setIfInBounds_toArray, List.set_cons_zero, List.set_cons_succ]
 refine wpHT_takeD (i := 7) (d := 41) (v := ?_) (by kernel_rfl) rfl rfl (by decide) (by kernel_rfl) (by kernel_rfl) (fun _ _ _ h => h) (Or.inl ⟨by kernel_rfl, ?_⟩) (by assumption) ?_
 rotate_left
 · intro w hSw; (try dsimp only at hSw); go_simp; (try with_reducible rfl)
 try simp only [Act.put, List.setIfInBounds_toArray, List.set_cons_zero, List.set_cons_succ]
 refine wpHT_takeD (i := 8) (d := 42) (v := ?_) (by kernel_rfl) rfl rfl (by decide) (by kernel_rfl) (by kernel_rfl) (fun _ _ _ h => h) (Or.inl ⟨by kernel_rfl, ?_⟩) (by assumption) ?_
 rotate_left
 · intro w hSw; (try dsimp only at hSw); go_simp; (try with_reducible rfl)
 try simp only [Act.put, List.setIfInBounds_toArray, List.set_cons_zero, List.set_cons_succ]
 refine wpHT_done (by kernel_rfl) ?_
 simp only [List.drop_succ_cons, List.drop_zero]
 clear hHeld
 have c1 := cell_of_row w3 c.b 1 _ _ _ HF3.out
 go_wp2_with fail
 all_goals
  go_end0
  refine ⟨rfl, G3.out.drew.setCell (fun _ => .inr rfl) _, (heap_setCell_other w3 ⟨c.b, 1, none⟩ d _ (Ne.symm ncd)).trans HD3.out, row_set (w := w3.drew) HF3.out ?_⟩
  first
   | (rw [show min sf (x : Int) = x by omega]; rfl)
   | (rw [show min sf (x : Int) = sf by omega]; rfl)

theorem dropE_any (d m k : Nat) (L : List Cel) (n : List UInt8) (hn : n.length ≤ 9223372036854775807) (hg : getC n L = none) (w : World) (c0 : w.cell? ⟨d, 0, none⟩ = some (.map (some m))) (hm : w.ownsMap Tryz.prog 9 ptrE m k (mapOf L)) :
 Calls Tryz.prog 96 #[.pointer (some ⟨d, 0, none⟩), .string (bs n)] w fun e w' => e = .returned (.tuple #[]) ∧ w = w' := by
 have hl := look_run hm n hn
 rw [hg] at hl
 clear hg hm
 simp only [Option.map_none] at hl
 go_enter Tryz.func96, Tryz.ntmps96
 go_wp2
 go_end0
 exact ⟨rfl, rfl⟩
/-- What drop does. -/
def DropPost (w : World) (d m : Nat) (L : List Cel) (n : List UInt8) (sz wr ar : Int) (dn : Bool) (e : Ending) (w' : World) : Prop :=
 e = .returned (.tuple #[]) ∧ Fr (fun k => k = d ∨ k = m) w w' ∧ w'.heap[d]? = some (.cells #[.map (some m), .int .i64 sz, .int .i64 wr, .int .i64 ar, .bool dn] 66 (0, 0)) ∧ ∃ k, w'.ownsMap Tryz.prog 9 ptrE m k ((mapOf L).del (.string n))
set_option maxHeartbeats 1000000 in
theorem drop_any (d m k : Nat) (L : List Cel) (n : List UInt8) (hn : n.length ≤ 9223372036854775807) (c : Cel) (hg : getC n L = some c) (a : Option Addr) (dl cap : Nat) (sf sz wr ar : Int) (dn : Bool) (hz : sz ≤ 4194304) (hdz : (dl : Int) ≤ sz) (w : World)
 (hd : w.heap[d]? = some (.cells #[.map (some m), .int .i64 sz, .int .i64 wr, .int .i64 ar, .bool dn] 66 (0, 0))) (hm : w.ownsMap Tryz.prog 9 ptrE m k (mapOf L)) (hf : w.heap[c.b]? = some (.cells #[.slice a dl cap, .int .i64 sf] 68 (0, 0))) (ndm : d ≠ m) :
 Calls Tryz.prog 96 #[.pointer (some ⟨d, 0, none⟩), .string (bs n)] w (DropPost w d m L n (sz - dl) wr ar dn) := by
 have hl := look_at hm hn hg
 have HM := Lib.hid hm
 have HD := Lib.hid hd
 have o1 : IntKind.i64.wrap (sz - (dl : Int)) = sz - (dl : Int) := IntWalk.i64_in _ (by omega)
 have c0 := cell_of_row w d 0 _ _ _ hd
 have c1 := cell_of_row w d 1 _ _ _ hd
 have f1 := frozen_of_row w d 1 _ _ hd
 have g0 := cell_of_row w c.b 0 _ _ _ hf
 clear hm hg hd hf
 go_enter Tryz.func96, Tryz.ntmps96
 go_wp2
 clear hl
 refine wp_region_ht 12 (fun W => W.cell? ⟨d, 1, none⟩ = some (.int .i64 sz) ∧ W.cell? ⟨c.b, 0, none⟩ = some (.slice a dl cap)) (by kernel_rfl) (by kernel_rfl) ?_ (fun hHeld => ?_)
 · exact ⟨c1, g0⟩
 try simp only [Act.put, List.setIfInBounds_toArray, List.set_cons_zero, List.set_cons_succ]
 refine wpHT_takeD (i := 0) (d := 13) (v := ?_) (by kernel_rfl) rfl rfl (by decide) (by kernel_rfl) (by kernel_rfl) (fun _ _ _ h => h) (Or.inl ⟨by kernel_rfl, ?_⟩) (by assumption) ?_
 rotate_left
 · intro w hSw; (try dsimp only at hSw); go_simp; (try with_reducible rfl)
 try simp only [Act.put, List.setIfInBounds_toArray, List.set_cons_zero, List.set_cons_succ]
 refine wpHT_takeD (i := 1) (d := 14) (v := ?_) (by kernel_rfl) rfl rfl (by decide) (by kernel_rfl) (by kernel_rfl) (fun _ _ _ h => h) (Or.inl ⟨by kernel_rfl, ?_⟩) (by assumption) ?_
 rotate_left
 · intro w hSw; (try dsimp only at hSw); go_simp; (try with_reducible rfl)
 try simp only [Act.put, List.setIfInBounds_toArray, List.set_cons_zero, List.set_cons_succ]
 refine wpHT_takeD (i := 2) (d := 15) (v := ?_) (by kernel_rfl) rfl rfl (by decide) (by kernel_rfl) (by kernel_rfl) (fun _ _ _ h => h) (Or.inl ⟨by kernel_rfl, ?_⟩) (by assumption) ?_
 rotate_left
 · intro w hSw; (try dsimp only at hSw); go_simp; (try with_reducible rfl)
 try simp only [Act.put, List.setIfInBounds_toArray, List.set_cons_zero, List.set_cons_succ]
 refine wpHT_takeD (i := 3) (d := 16) (v := ?_) (by kernel_rfl) rfl rfl (by decide) (by kernel_rfl) (by kernel_rfl) (fun _ _ _ h => h) (Or.inl ⟨by kernel_rfl, ?_⟩) (by assumption) ?_
 rotate_left
 · intro w hSw; (try dsimp only at hSw); go_simp; (try with_reducible rfl)
 try simp only [Act.put, List.setIfInBounds_toArray, List.set_cons_zero, List.set_cons_succ]
 refine wpHT_takeD (i := 4) (d := 17) (v := ?_) (by kernel_rfl) rfl rfl (by decide) (by kernel_rfl) (by kernel_rfl) (fun _ _ _ h => h) (Or.inl ⟨by kernel_rfl, ?_⟩) (by assumption) ?_
 rotate_left
 · intro w hSw; (try dsimp only at hSw); go_simp; (try with_reducible rfl)
 try simp only [Act.put, List.setIfInBounds_toArray, List.set_cons_zero, List.set_cons_succ]
 refine wpHT_takeD (i := 5) (d := 18) (v := ?_) (by kernel_rfl) rfl rfl (by decide) (by kernel_rfl) (by kernel_rfl) (fun _ _ _ h => h) (Or.inl ⟨by kernel_rfl, ?_⟩) (by assumption) ?_
 rotate_left
 · intro w hSw; (try dsimp only at hSw); go_simp; (try with_reducible rfl)
 try simp only [Act.put, List.setIfInBounds_toArray, List.set_cons_zero, List.set_cons_succ]
 refine wpHT_takeD (i := 6) (d := 19) (v := ?_) (by kernel_rfl) rfl rfl (by decide) (by kernel_rfl) (by kernel_rfl) (fun _ _ _ h => h) (Or.inl ⟨by kernel_rfl, ?_⟩) (by assumption) ?_
 rotate_left
 · intro w hSw; (try dsimp only at hSw); go_simp; (try with_reducible rfl)
 try simp only [Act.put, List.setIfInBounds_toArray, List.set_cons_zero, List.set_cons_succ]
 refine wpHT_takeD (i := 7) (d := 20) (v := ?_) (by kernel_rfl) rfl rfl (by decide) (by kernel_rfl) (by kernel_rfl) (fun _ _ _ h => h) (Or.inl ⟨by kernel_rfl, ?_⟩) (by assumption) ?_
 rotate_left
 · intro w hSw; (try dsimp only at hSw); go_simp; (try with_reducible rfl)
 try simp only [Act.put, List.setIfInBounds_toArray, List.set_cons_zero, List.set_cons_succ]
 refine wpHT_takeD (i := 8) (d := 21) (v := ?_) (by kernel_rfl) rfl rfl (by decide) (by kernel_rfl) (by kernel_rfl) (fun _ _ _ h => h) (Or.inl ⟨by kernel_rfl, ?_⟩) (by assumption) ?_
 rotate_left
 · intro w hSw; (try dsimp only at hSw); go_simp; (try with_reducible rfl)
 try simp only [Act.put, List.setIfInBounds_toArray, List.set_cons_zero, List.set_cons_succ]
 refine wpHT_takeD (i := 9) (d := 22) (v := ?_) (by kernel_rfl) rfl rfl (by decide) (by kernel_rfl) (by kernel_rfl) (fun _ _ _ h => h) (Or.inl ⟨by kernel_rfl, ?_⟩) (by assumption) ?_
 rotate_left
 · intro w hSw; (try dsimp only at hSw); go_simp; (try with_reducible rfl)
 try simp only [Act.put, List.setIfInBounds_toArray, List.set_cons_zero, List.set_cons_succ]
 refine wpHT_takeD (i := 10) (d := 23) (v := ?_) (by kernel_rfl) rfl rfl (by decide) (by kernel_rfl) (by kernel_rfl) (fun _ _ _ h => h) (Or.inl ⟨by kernel_rfl, ?_⟩) (by assumption) ?_
 rotate_left
 · intro w hSw; (try dsimp only at hSw); go_simp; (try with_reducible rfl)
 try simp only [Act.put, List.setIfInBounds_toArray, List.set_cons_zero, List.set_cons_succ]
 refine wpHT_takeD (i := 11) (d := 24) (v := ?_) (by kernel_rfl) rfl rfl (by decide) (by kernel_rfl) (by kernel_rfl) (fun _ _ _ h => h) (Or.inl ⟨by kernel_rfl, ?_⟩) (by assumption) ?_
 rotate_left
 · intro w hSw; (try dsimp only at hSw); go_simp; (try with_reducible rfl)
 try simp only [Act.put, List.setIfInBounds_toArray, List.set_cons_zero, List.set_cons_succ]
 refine wpHT_done (by kernel_rfl) ?_
 simp only [List.drop_succ_cons, List.drop_zero]
 clear hHeld o1
 have c2 : ((w.setCell ⟨d, 1, none⟩ (.int .i64 (sz - (dl : Int)))).drew).cell? ⟨d, 0, none⟩ = some (.map (some m)) := cell_set_keep (w := w) c0 (fun e => by simp at e)
 go_wp2_with (at_delete; refine wpList_delete_own _ rfl _ _ 64 9 rfl 63 strKeyed Tryz.underlying64 ptrE m k (mapOf L) rfl (HM.out.setCell (Ne.symm ndm) _) _ (.string n) rfl (keyS n hn) ?_; intro w1 hown1 hturn1)
 go_end0
 exact ⟨rfl, (((Fr.refl _ w).drew.setCell (fun _ => .inl rfl) _).grown hturn1.grown (fun k _ e => .inr (Option.some.inj e).symm)), (hturn1.grown.block d (by simp [World.setCell]; exact (Array.getElem?_eq_some_iff.1 HD.out).1) (fun e => ndm (Option.some.inj e))).trans (row_set (w := w.drew) HD.out rfl), _, hown1⟩

end Go.Proofs.YtjjcilinghgphaaGreat
