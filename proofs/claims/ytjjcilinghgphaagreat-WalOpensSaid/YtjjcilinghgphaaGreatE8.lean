/-
 The disk's methods that write, over a disk in a state. Written by a program (e8gen.py).
-/
import Derived.Test.YtjjcilinghgphaaGreatE7
namespace Go.Proofs.YtjjcilinghgphaaGreat
open Go.RowKit Go.Maps
set_option maxRecDepth 100000
attribute [local go_sem] bs_size bs_toList
theorem boxed2 (w : World) (u v : Value) (t1 t2 : TypeId) : Fr (fun _ => False) w ((w.alloc (.cells #[u] t1)).alloc (.cells #[v] t2)) ∧ ((w.alloc (.cells #[u] t1)).alloc (.cells #[v] t2)).cell? ⟨w.heap.size, 0, none⟩ = some u ∧ ((w.alloc (.cells #[u] t1)).alloc (.cells #[v] t2)).cell? ⟨w.heap.size + 1, 0, none⟩ = some v := by
 refine ⟨((Fr.refl _ w).alloc _).alloc _, cell_alloc_keep (cell_of_row _ w.heap.size 0 #[u] t1 _ (heap_alloc_new w _)), ?_⟩
 simp
theorem boxed3 (w : World) (u v x : Value) (t1 t2 t3 : TypeId) : Fr (fun _ => False) w (((w.alloc (.cells #[u] t1)).alloc (.cells #[v] t2)).alloc (.cells #[x] t3)) ∧ (((w.alloc (.cells #[u] t1)).alloc (.cells #[v] t2)).alloc (.cells #[x] t3)).cell? ⟨w.heap.size, 0, none⟩ = some u ∧ (((w.alloc (.cells #[u] t1)).alloc (.cells #[v] t2)).alloc (.cells #[x] t3)).cell? ⟨w.heap.size + 1, 0, none⟩ = some v ∧ (((w.alloc (.cells #[u] t1)).alloc (.cells #[v] t2)).alloc (.cells #[x] t3)).cell? ⟨w.heap.size + 2, 0, none⟩ = some x := by
 obtain ⟨h1, h2, h3⟩ := boxed2 w u v t1 t2
 refine ⟨h1.alloc _, cell_alloc_keep h2, cell_alloc_keep h3, ?_⟩
 have := cell_of_row (((w.alloc (.cells #[u] t1)).alloc (.cells #[v] t2)).alloc (.cells #[x] t3)) ((w.alloc (.cells #[u] t1)).alloc (.cells #[v] t2)).heap.size 0 #[x] t3 _ (heap_alloc_new _ _)
 simp at this
 exact this
theorem Fr.any {S : Nat → Prop} {w w' : World} (h : Fr (fun _ => False) w w') : Fr S w w' := h.mono fun _ _ h => h.elim
/-- What a method that writes tells and leaves. -/
def Told (B : Int) (w : World) (d : Nat) (S : Nat → Prop) (r : DS × Int) (x : Ending) (w' : World) : Prop := x = .returned (.int .i64 r.2) ∧ Done (B + 1) w d S r.1 w'
theorem DkS.kept {B : Int} {w W : World} {d : Nat} {S : Nat → Prop} {s : DS} (h : DkS B w d S s) (hf : Fr (fun _ => False) w W) : DkS B W d S s := h.keep hf fun _ _ h => h
theorem DkS.d0 {B : Int} {w : World} {d : Nat} {S : Nat → Prop} {s : DS} (h : DkS B w d S s) : ∃ m L k, w.cell? ⟨d, 0, none⟩ = some (.map (some m)) ∧ w.ownsMap Tryz.prog 9 ptrE m k (mapOf L) ∧ L.map Cel.f = s.fs := by
 obtain ⟨m, L, hD, hL, _⟩ := h
 exact ⟨m, L, _, cell_of_row w d 0 _ _ _ hD.hd, hD.hm, hL⟩
theorem new_not {B : Int} {w : World} {d : Nat} {S : Nat → Prop} {s : DS} (h : DkS B w d S s) (k : Nat) : ¬ S (w.heap.size + k) := fun e => by have := h.lt _ e; omega
theorem new_not0 {B : Int} {w : World} {d : Nat} {S : Nat → Prop} {s : DS} (h : DkS B w d S s) : ¬ S w.heap.size := fun e => by have := h.lt _ e; omega
theorem Fr.cellk {S : Nat → Prop} {w w' : World} (h : Fr S w w') {b : Nat} {v : Value} (hc : w.cell? ⟨b, 0, none⟩ = some v) (hn : ¬ S b) : w'.cell? ⟨b, 0, none⟩ = some v := (h.cell (p := ⟨b, 0, none⟩) (World.block_lt_of_cell? _ _ hc) hn).trans hc
theorem createW (d : Nat) (S : Nat → Prop) (B : Int) (hB : B < 1000000000000) (s : DS) (n : List UInt8) (w : World) (h : DkS B w d S s) (W : World) (hf : Fr (fun _ => False) w W)
 (k2 : W.cell? ⟨w.heap.size, 0, none⟩ = some (.pointer (some ⟨d, 0, none⟩))) (k3 : W.cell? ⟨w.heap.size + 1, 0, none⟩ = some (.string (bs n))) :
 Calls Tryz.prog 73 #[.pointer (some ⟨d, 0, none⟩), .int .i64 (creE s n), .func (.func 74) #[] #[.pointer (some ⟨w.heap.size, 0, none⟩), .pointer (some ⟨w.heap.size + 1, 0, none⟩)]] W (Told B w d S (createS s n)) := by
 refine (write_create_S d S B hB s (creE s n) _ (fun s => { s with fs := insF ⟨n, [], 0⟩ s.fs }) W (h.kept hf) fun hdn he _ W1 hf1 h1 => ?_).mono ?_
 · unfold creE at he
   split at he
   · cases he
   · split at he
     · cases he
     · split at he
       · cases he
       · exact create1_S _ _ d S (B + 1) (fallS s).1 n (by simpa using ‹¬ (!nameOk n) = true›) (by rw [fallS_fs]; simpa using ‹¬ (getF n s.fs).isSome = true›) (by rw [fallS_fs]; omega) W1 (hf1.cellk k2 (new_not0 h)) (hf1.cellk k3 (new_not h 1)) h1
 · rintro x w' ⟨rfl, hd⟩
   exact ⟨rfl, Done.trans0 hf.any hd⟩
theorem syncW (d : Nat) (S : Nat → Prop) (B : Int) (hB : B < 1000000000000) (s : DS) (n : List UInt8) (hn : n.length ≤ 9223372036854775807) (w : World) (h : DkS B w d S s) (W : World) (hf : Fr (fun _ => False) w W)
 (k2 : W.cell? ⟨w.heap.size, 0, none⟩ = some (.pointer (some ⟨d, 0, none⟩))) (k3 : W.cell? ⟨w.heap.size + 1, 0, none⟩ = some (.string (bs n))) :
 Calls Tryz.prog 73 #[.pointer (some ⟨d, 0, none⟩), .int .i64 (hasE s n), .func (.func 88) #[] #[.pointer (some ⟨w.heap.size, 0, none⟩), .pointer (some ⟨w.heap.size + 1, 0, none⟩)]] W (Told B w d S (syncS s n)) := by
 refine (write_sync_S d S B hB s (hasE s n) _ (fun s => { s with fs := updF n (fun f => ⟨f.nm, f.dt, f.dt.length⟩) s.fs }) W (h.kept hf) fun hdn he _ W1 hf1 h1 => ?_).mono ?_
 · unfold hasE at he
   cases hg : getF n s.fs with
   | none => rw [hg] at he; cases he
   | some f => exact sync1_S _ _ d S (B + 1) (fallS s).1 n hn f (by rw [fallS_fs]; exact hg) W1 (hf1.cellk k2 (new_not0 h)) (hf1.cellk k3 (new_not h 1)) h1
 · rintro x w' ⟨rfl, hd⟩
   exact ⟨rfl, Done.trans0 hf.any hd⟩
theorem removeW (d : Nat) (S : Nat → Prop) (B : Int) (hB : B < 1000000000000) (s : DS) (n : List UInt8) (hn : n.length ≤ 9223372036854775807) (w : World) (h : DkS B w d S s) (W : World) (hf : Fr (fun _ => False) w W)
 (k2 : W.cell? ⟨w.heap.size, 0, none⟩ = some (.pointer (some ⟨d, 0, none⟩))) (k3 : W.cell? ⟨w.heap.size + 1, 0, none⟩ = some (.string (bs n))) :
 Calls Tryz.prog 73 #[.pointer (some ⟨d, 0, none⟩), .int .i64 (hasE s n), .func (.func 95) #[] #[.pointer (some ⟨w.heap.size, 0, none⟩), .pointer (some ⟨w.heap.size + 1, 0, none⟩)]] W (Told B w d S (removeS s n)) := by
 refine (write_remove_S d S B hB s (hasE s n) _ (fun s => { s with fs := delF n s.fs }) W (h.kept hf) fun hdn he _ W1 hf1 h1 => ?_).mono ?_
 · exact remove1_S _ _ d S (B + 1) (fallS s).1 n hn W1 (hf1.cellk k2 (new_not0 h)) (hf1.cellk k3 (new_not h 1)) h1
 · rintro x w' ⟨rfl, hd⟩
   exact ⟨rfl, Done.trans0 hf.any hd⟩
theorem cutW (d : Nat) (S : Nat → Prop) (B : Int) (hB : B < 1000000000000) (s : DS) (n : List UInt8) (hn : n.length ≤ 9223372036854775807) (x : Int) (w : World) (h : DkS B w d S s) (W : World) (hf : Fr (fun _ => False) w W)
 (k2 : W.cell? ⟨w.heap.size, 0, none⟩ = some (.pointer (some ⟨d, 0, none⟩))) (k3 : W.cell? ⟨w.heap.size + 1, 0, none⟩ = some (.string (bs n))) (k4 : W.cell? ⟨w.heap.size + 2, 0, none⟩ = some (.int .i64 x)) :
 Calls Tryz.prog 73 #[.pointer (some ⟨d, 0, none⟩), .int .i64 (cutE s n x), .func (.func 99) #[] #[.pointer (some ⟨w.heap.size, 0, none⟩), .pointer (some ⟨w.heap.size + 1, 0, none⟩), .pointer (some ⟨w.heap.size + 2, 0, none⟩)]] W (Told B w d S (cutS s n x)) := by
 refine (write_cut_S d S B hB s (cutE s n x) _ (fun s => { s with fs := updF n (fun f => ⟨f.nm, f.dt.take x.toNat, min f.sf x.toNat⟩) s.fs }) W (h.kept hf) fun hdn he _ W1 hf1 h1 => ?_).mono ?_
 · unfold cutE at he
   cases hg : getF n s.fs with
   | none => rw [hg] at he; cases he
   | some f =>
    rw [hg] at he
    simp only [] at he
    have hx : 0 ≤ x ∧ x ≤ f.dt.length := by
     by_cases hc : x < 0 ∨ (f.dt.length : Int) < x
     · rw [if_pos hc] at he; cases he
     · omega
    obtain ⟨x, rfl⟩ : ∃ k : Nat, x = k := ⟨x.toNat, by omega⟩
    exact cut1_S _ _ _ d S (B + 1) (fallS s).1 n hn f (by rw [fallS_fs]; exact hg) x (by omega) W1 (hf1.cellk k2 (new_not0 h)) (hf1.cellk k3 (new_not h 1)) (hf1.cellk k4 (new_not h 2)) (new_not0 h) (new_not h 1) (new_not h 2) h1
 · rintro x w' ⟨rfl, hd⟩
   exact ⟨rfl, Done.trans0 hf.any hd⟩
/-! ### the walks -/
set_option maxHeartbeats 1000000 in
theorem create_any (d : Nat) (S : Nat → Prop) (B : Int) (hB : B < 1000000000000) (s : DS) (n : List UInt8) (hn : n.length ≤ 9223372036854775807) (w : World) (h : DkS B w d S s) :
 Calls Tryz.prog 39 #[.pointer (some ⟨d, 0, none⟩), .string (bs n)] w (Told B w d S (createS s n)) := by
 obtain ⟨hf, k2, k3⟩ := boxed2 w (.pointer (some ⟨d, 0, none⟩)) (.string (bs n)) 27 9
 have HW := Lib.hid (createW d S B hB s n w h)
 have HF := Lib.hid hf
 have HW2 : Hid (Calls Tryz.prog 73 #[.pointer (some ⟨d, 0, none⟩), .int .i64 (creE s n), .func (.func 74) #[] #[.pointer (some ⟨w.heap.size, 0, none⟩), .pointer (some ⟨w.heap.size + 1, 0, none⟩)]] ((w.alloc (.cells #[.pointer (some ⟨d, 0, none⟩)] 27)).alloc (.cells #[.string (bs n)] 9)).drew (Told B w d S (createS s n))) := createW d S B hB s n w h ((w.alloc (.cells #[.pointer (some ⟨d, 0, none⟩)] 27)).alloc (.cells #[.string (bs n)] 9)).drew hf.drew k2 k3
 obtain ⟨m, L, k, c0, hm, hL⟩ := (h.kept hf).d0
 have HM := Lib.hid hm
 have hlen : L.length = s.fs.length := len_of hL
 have hl64 := h.ok.len
 clear hf hm h
 cases hnm : nameOk n with
 | false =>
  have hE : creE s n = 10 := by unfold creE; rw [hnm]; rfl
  rw [hE] at HW HW2
  go_enter Tryz.func39, Tryz.ntmps39
  go_wp2_with (first | (go_at_call 22; ((with_reducible refine (name_any n _ hn).mono ?_); rintro e w' ⟨rfl, rfl⟩)) | (go_at_call 73; ((with_reducible refine (HW.out _ HF.out k2 k3).mono ?_); rintro e w' ⟨rfl, hd⟩; have HD := Lib.hid hd; clear hd)))
  go_ret
  exact ⟨rfl, HD.out⟩
 | true =>
  cases hg : getC n L with
  | some c =>
   have hl := look_at (w := ((w.alloc (.cells #[.pointer (some ⟨d, 0, none⟩)] 27)).alloc (.cells #[.string (bs n)] 9)).drew) HM.out.drew hn hg
   have hE : creE s n = 9 := by unfold creE; rw [hnm, ← hL, getC_f, hg]; rfl
   rw [hE] at HW HW2
   clear hg
   go_enter Tryz.func39, Tryz.ntmps39
   go_wp2_with (first | (go_at_call 22; ((with_reducible refine (name_any n _ hn).mono ?_); rintro e w' ⟨rfl, rfl⟩)))
   refine wp_region_ht 7 (fun W => W.cell? ⟨w.heap.size, 0, none⟩ = some (.pointer (some ⟨d, 0, none⟩)) ∧ W.cell? ⟨w.heap.size + 1, 0, none⟩ = some (.string (bs n)) ∧ W.cell? ⟨d, 0, none⟩ = some (.map (some m)) ∧ (Instr.lookup 64 (.map (some m)) (.string (bs n)) false).run Tryz.prog W = .ok (.pointer (some ⟨c.b, 0, none⟩)) W) (by kernel_rfl) (by kernel_rfl) ?_ (fun hHeld => ?_)
   · exact ⟨k2, k3, c0, hl⟩
   try simp only [Act.put, List.setIfInBounds_toArray, List.set_cons_zero, List.set_cons_succ]
   refine wpHT_takeD (i := 0) (d := 11) (v := ?_) (by kernel_rfl) rfl rfl (by decide) (by kernel_rfl) (by kernel_rfl) (fun _ _ _ h => h) (Or.inl ⟨by kernel_rfl, ?_⟩) (by assumption) ?_
   rotate_left
   · intro w hSw; (try dsimp only at hSw); go_simp; (try with_reducible rfl)
   try simp only [Act.put, List.setIfInBounds_toArray, List.set_cons_zero, List.set_cons_succ]
   refine wpHT_takeD (i := 1) (d := 12) (v := ?_) (by kernel_rfl) rfl rfl (by decide) (by kernel_rfl) (by kernel_rfl) (fun _ _ _ h => h) (Or.inl ⟨by kernel_rfl, ?_⟩) (by assumption) ?_
   rotate_left
   · intro w hSw; (try dsimp only at hSw); go_simp; (try with_reducible rfl)
   try simp only [Act.put, List.setIfInBounds_toArray, List.set_cons_zero, List.set_cons_succ]
   refine wpHT_takeD (i := 2) (d := 13) (v := ?_) (by kernel_rfl) rfl rfl (by decide) (by kernel_rfl) (by kernel_rfl) (fun _ _ _ h => h) (Or.inl ⟨by kernel_rfl, ?_⟩) (by assumption) ?_
   rotate_left
   · intro w hSw; (try dsimp only at hSw); go_simp; (try with_reducible rfl)
   try simp only [Act.put, List.setIfInBounds_toArray, List.set_cons_zero, List.set_cons_succ]
   refine wpHT_takeD (i := 3) (d := 14) (v := ?_) (by kernel_rfl) rfl rfl (by decide) (by kernel_rfl) (by kernel_rfl) (fun _ _ _ h => h) (Or.inl ⟨by kernel_rfl, ?_⟩) (by assumption) ?_
   rotate_left
   · intro w hSw; (try dsimp only at hSw); go_simp; (try with_reducible rfl)
   try simp only [Act.put, List.setIfInBounds_toArray, List.set_cons_zero, List.set_cons_succ]
   refine wpHT_takeD (i := 4) (d := 15) (v := ?_) (by kernel_rfl) rfl rfl (by decide) (by kernel_rfl) (by kernel_rfl) (fun _ _ _ h => h) (Or.inl ⟨by kernel_rfl, ?_⟩) (by assumption) ?_
   rotate_left
   · intro w hSw; (try dsimp only at hSw); go_simp; (try with_reducible rfl)
   try simp only [Act.put, List.setIfInBounds_toArray, List.set_cons_zero, List.set_cons_succ]
   refine wpHT_takeD (i := 5) (d := 16) (v := ?_) (by kernel_rfl) rfl rfl (by decide) (by kernel_rfl) (by kernel_rfl) (fun _ _ _ h => h) (Or.inl ⟨by kernel_rfl, ?_⟩) (by assumption) ?_
   rotate_left
   · intro w hSw; (try dsimp only at hSw); go_simp; (try with_reducible rfl)
   try simp only [Act.put, List.setIfInBounds_toArray, List.set_cons_zero, List.set_cons_succ]
   refine wpHT_takeD (i := 6) (d := 17) (v := ?_) (by kernel_rfl) rfl rfl (by decide) (by kernel_rfl) (by kernel_rfl) (fun _ _ _ h => h) (Or.inl ⟨by kernel_rfl, ?_⟩) (by assumption) ?_
   rotate_left
   · intro w hSw; (try dsimp only at hSw); go_simp; (try with_reducible rfl)
   try simp only [Act.put, List.setIfInBounds_toArray, List.set_cons_zero, List.set_cons_succ]
   refine wpHT_done (by kernel_rfl) ?_
   simp only [List.drop_succ_cons, List.drop_zero]
   clear hHeld hl
   go_wp2_with (first | (go_at_call 73; ((with_reducible refine (HW2.out).mono ?_); rintro e w' ⟨rfl, hd⟩; have HD := Lib.hid hd; clear hd)))
   go_ret
   exact ⟨rfl, HD.out⟩
  | none =>
   have hl : (Instr.lookup 64 (.map (some m)) (.string (bs n)) false).run Tryz.prog ((w.alloc (.cells #[.pointer (some ⟨d, 0, none⟩)] 27)).alloc (.cells #[.string (bs n)] 9)).drew = .ok (.pointer none) ((w.alloc (.cells #[.pointer (some ⟨d, 0, none⟩)] 27)).alloc (.cells #[.string (bs n)] 9)).drew := by
    have := look_run (w := ((w.alloc (.cells #[.pointer (some ⟨d, 0, none⟩)] 27)).alloc (.cells #[.string (bs n)] 9)).drew) HM.out.drew n hn
    rw [hg] at this; exact this
   rcases Nat.lt_or_ge L.length 64 with h64 | h64
   case' inl => have hd64 : decide ((64 : Int) ≤ L.length) = false := by simp; omega
   case' inr => have hd64 : decide ((64 : Int) ≤ L.length) = true := by simp; omega
   case' inl => have hE : creE s n = 0 := by unfold creE; rw [hnm, ← hL, getC_f, hg]; simp; omega
   case' inr => have hE : creE s n = 3 := by unfold creE; rw [hnm, ← hL, getC_f, hg]; simp; omega
   all_goals
    rw [hE] at HW HW2
    clear hg
    go_enter Tryz.func39, Tryz.ntmps39
    go_wp2_with (first | (go_at_call 22; ((with_reducible refine (name_any n _ hn).mono ?_); rintro e w' ⟨rfl, rfl⟩)))
    refine wp_region_ht 7 (fun W => W.cell? ⟨w.heap.size, 0, none⟩ = some (.pointer (some ⟨d, 0, none⟩)) ∧ W.cell? ⟨w.heap.size + 1, 0, none⟩ = some (.string (bs n)) ∧ W.cell? ⟨d, 0, none⟩ = some (.map (some m)) ∧ (Instr.lookup 64 (.map (some m)) (.string (bs n)) false).run Tryz.prog W = .ok (.pointer none) W) (by kernel_rfl) (by kernel_rfl) ?_ (fun hHeld => ?_)
    · exact ⟨k2, k3, c0, hl⟩
    try simp only [Act.put, List.setIfInBounds_toArray, List.set_cons_zero, List.set_cons_succ]
    refine wpHT_takeD (i := 0) (d := 11) (v := ?_) (by kernel_rfl) rfl rfl (by decide) (by kernel_rfl) (by kernel_rfl) (fun _ _ _ h => h) (Or.inl ⟨by kernel_rfl, ?_⟩) (by assumption) ?_
    rotate_left
    · intro w hSw; (try dsimp only at hSw); go_simp; (try with_reducible rfl)
    try simp only [Act.put, List.setIfInBounds_toArray, List.set_cons_zero, List.set_cons_succ]
    refine wpHT_takeD (i := 1) (d := 12) (v := ?_) (by kernel_rfl) rfl rfl (by decide) (by kernel_rfl) (by kernel_rfl) (fun _ _ _ h => h) (Or.inl ⟨by kernel_rfl, ?_⟩) (by assumption) ?_
    rotate_left
    · intro w hSw; (try dsimp only at hSw); go_simp; (try with_reducible rfl)
    try simp only [Act.put, List.setIfInBounds_toArray, List.set_cons_zero, List.set_cons_succ]
    refine wpHT_takeD (i := 2) (d := 13) (v := ?_) (by kernel_rfl) rfl rfl (by decide) (by kernel_rfl) (by kernel_rfl) (fun _ _ _ h => h) (Or.inl ⟨by kernel_rfl, ?_⟩) (by assumption) ?_
    rotate_left
    · intro w hSw; (try dsimp only at hSw); go_simp; (try with_reducible rfl)
    try simp only [Act.put, List.setIfInBounds_toArray, List.set_cons_zero, List.set_cons_succ]
    refine wpHT_takeD (i := 3) (d := 14) (v := ?_) (by kernel_rfl) rfl rfl (by decide) (by kernel_rfl) (by kernel_rfl) (fun _ _ _ h => h) (Or.inl ⟨by kernel_rfl, ?_⟩) (by assumption) ?_
    rotate_left
    · intro w hSw; (try dsimp only at hSw); go_simp; (try with_reducible rfl)
    try simp only [Act.put, List.setIfInBounds_toArray, List.set_cons_zero, List.set_cons_succ]
    refine wpHT_takeD (i := 4) (d := 15) (v := ?_) (by kernel_rfl) rfl rfl (by decide) (by kernel_rfl) (by kernel_rfl) (fun _ _ _ h => h) (Or.inl ⟨by kernel_rfl, ?_⟩) (by assumption) ?_
    rotate_left
    · intro w hSw; (try dsimp only at hSw); go_simp; (try with_reducible rfl)
    try simp only [Act.put, List.setIfInBounds_toArray, List.set_cons_zero, List.set_cons_succ]
    refine wpHT_takeD (i := 5) (d := 16) (v := ?_) (by kernel_rfl) rfl rfl (by decide) (by kernel_rfl) (by kernel_rfl) (fun _ _ _ h => h) (Or.inl ⟨by kernel_rfl, ?_⟩) (by assumption) ?_
    rotate_left
    · intro w hSw; (try dsimp only at hSw); go_simp; (try with_reducible rfl)
    try simp only [Act.put, List.setIfInBounds_toArray, List.set_cons_zero, List.set_cons_succ]
    refine wpHT_takeD (i := 6) (d := 17) (v := ?_) (by kernel_rfl) rfl rfl (by decide) (by kernel_rfl) (by kernel_rfl) (fun _ _ _ h => h) (Or.inl ⟨by kernel_rfl, ?_⟩) (by assumption) ?_
    rotate_left
    · intro w hSw; (try dsimp only at hSw); go_simp; (try with_reducible rfl)
    try simp only [Act.put, List.setIfInBounds_toArray, List.set_cons_zero, List.set_cons_succ]
    refine wpHT_done (by kernel_rfl) ?_
    simp only [List.drop_succ_cons, List.drop_zero]
    clear hHeld hl
    go_wp2_with (first | (at_len; refine wpList_len_own _ rfl _ 64 rfl 9 63 Tryz.underlying64 ptrE m k (mapOf L) rfl HM.out.drew ?_; rw [mapOf_size]) | (go_at_call 73; ((with_reducible refine (HW2.out).mono ?_); rintro e w' ⟨rfl, hd⟩; have HD := Lib.hid hd; clear hd)))
    go_ret
    exact ⟨rfl, HD.out⟩

theorem noneE_has {L : List Cel} {s : DS} (hL : L.map Cel.f = s.fs) (n : List UInt8) : noneE (getC n L) = hasE s n := by
 unfold hasE
 rw [← hL, getC_f]
 cases getC n L <;> rfl
/-- 'has' over a disk in a state. -/
theorem has_S (d : Nat) (S : Nat → Prop) (B : Int) (s : DS) (n : List UInt8) (hn : n.length ≤ 9223372036854775807) (w : World) (h : DkS B w d S s) :
 Calls Tryz.prog 87 #[.pointer (some ⟨d, 0, none⟩), .string (bs n)] w fun e w' => e = .returned (.int .i64 (hasE s n)) ∧ w = w' := by
 obtain ⟨m, L, k, c0, hm, hL⟩ := h.d0
 rw [← noneE_has hL n]
 exact has_any d m k L n hn w c0 hm
set_option maxHeartbeats 1000000 in
theorem sync_any (d : Nat) (S : Nat → Prop) (B : Int) (hB : B < 1000000000000) (s : DS) (n : List UInt8) (hn : n.length ≤ 9223372036854775807) (w : World) (h : DkS B w d S s) :
 Calls Tryz.prog 57 #[.pointer (some ⟨d, 0, none⟩), .string (bs n)] w (Told B w d S (syncS s n)) := by
 obtain ⟨hf, k2, k3⟩ := boxed2 w (.pointer (some ⟨d, 0, none⟩)) (.string (bs n)) 27 9
 have HW := Lib.hid (syncW d S B hB s n hn w h ((w.alloc (.cells #[.pointer (some ⟨d, 0, none⟩)] 27)).alloc (.cells #[.string (bs n)] 9)).drew hf.drew k2 k3)
 have HH := Lib.hid (has_S d S B s n hn ((w.alloc (.cells #[.pointer (some ⟨d, 0, none⟩)] 27)).alloc (.cells #[.string (bs n)] 9)).drew (h.kept hf.drew))
 clear hf h
 go_enter Tryz.func57, Tryz.ntmps57
 go_wp2_with fail
 refine wp_region_ht 5 (fun W => W.cell? ⟨w.heap.size, 0, none⟩ = some (.pointer (some ⟨d, 0, none⟩)) ∧ W.cell? ⟨w.heap.size + 1, 0, none⟩ = some (.string (bs n))) (by kernel_rfl) (by kernel_rfl) ?_ (fun hHeld => ?_)
 · exact ⟨k2, k3⟩
 try simp only [Act.put, List.setIfInBounds_toArray, List.set_cons_zero, List.set_cons_succ]
 refine wpHT_takeD (i := 0) (d := 5) (v := ?_) (by kernel_rfl) rfl rfl (by decide) (by kernel_rfl) (by kernel_rfl) (fun _ _ _ h => h) (Or.inl ⟨by kernel_rfl, ?_⟩) (by assumption) ?_
 rotate_left
 · intro w hSw; (try dsimp only at hSw); go_simp; (try with_reducible rfl)
 try simp only [Act.put, List.setIfInBounds_toArray, List.set_cons_zero, List.set_cons_succ]
 refine wpHT_takeD (i := 1) (d := 6) (v := ?_) (by kernel_rfl) rfl rfl (by decide) (by kernel_rfl) (by kernel_rfl) (fun _ _ _ h => h) (Or.inl ⟨by kernel_rfl, ?_⟩) (by assumption) ?_
 rotate_left
 · intro w hSw; (try dsimp only at hSw); go_simp; (try with_reducible rfl)
 try simp only [Act.put, List.setIfInBounds_toArray, List.set_cons_zero, List.set_cons_succ]
 refine wpHT_takeD (i := 2) (d := 7) (v := ?_) (by kernel_rfl) rfl rfl (by decide) (by kernel_rfl) (by kernel_rfl) (fun _ _ _ h => h) (Or.inl ⟨by kernel_rfl, ?_⟩) (by assumption) ?_
 rotate_left
 · intro w hSw; (try dsimp only at hSw); go_simp; (try with_reducible rfl)
 try simp only [Act.put, List.setIfInBounds_toArray, List.set_cons_zero, List.set_cons_succ]
 refine wpHT_takeD (i := 4) (d := 9) (v := ?_) (by kernel_rfl) rfl rfl (by decide) (by kernel_rfl) (by kernel_rfl) (fun _ _ _ h => h) (Or.inl ⟨by kernel_rfl, ?_⟩) (by assumption) ?_
 rotate_left
 · intro w hSw; (try dsimp only at hSw); go_simp; (try with_reducible rfl)
 try simp only [Act.put, List.setIfInBounds_toArray, List.set_cons_zero, List.set_cons_succ]
 refine wpHT_one (i := 3) (by kernel_rfl) rfl (by decide) (fun K hK => ?_)
 go_simp
 go_at_call 87
 refine (HH.out).mono ?_
 rintro e W ⟨rfl, rfl⟩
 refine hK.out _ _ ?_ (fun hHeld => ?_)
 · exact ⟨k2, k3⟩
 clear hK K
 try simp only [Act.put, List.setIfInBounds_toArray, List.set_cons_zero, List.set_cons_succ]
 refine wpHT_done (by kernel_rfl) ?_
 simp only [List.drop_succ_cons, List.drop_zero]
 clear hHeld
 go_wp2_with (first | (go_at_call 73; ((with_reducible refine (HW.out).mono ?_); rintro e w' ⟨rfl, hd⟩; have HD := Lib.hid hd; clear hd)))
 go_ret
 exact ⟨rfl, HD.out⟩

set_option maxHeartbeats 1000000 in
theorem remove_any (d : Nat) (S : Nat → Prop) (B : Int) (hB : B < 1000000000000) (s : DS) (n : List UInt8) (hn : n.length ≤ 9223372036854775807) (w : World) (h : DkS B w d S s) :
 Calls Tryz.prog 79 #[.pointer (some ⟨d, 0, none⟩), .string (bs n)] w (Told B w d S (removeS s n)) := by
 obtain ⟨hf, k2, k3⟩ := boxed2 w (.pointer (some ⟨d, 0, none⟩)) (.string (bs n)) 27 9
 have HW := Lib.hid (removeW d S B hB s n hn w h ((w.alloc (.cells #[.pointer (some ⟨d, 0, none⟩)] 27)).alloc (.cells #[.string (bs n)] 9)).drew hf.drew k2 k3)
 have HH := Lib.hid (has_S d S B s n hn ((w.alloc (.cells #[.pointer (some ⟨d, 0, none⟩)] 27)).alloc (.cells #[.string (bs n)] 9)).drew (h.kept hf.drew))
 clear hf h
 go_enter Tryz.func79, Tryz.ntmps79
 go_wp2_with fail
 refine wp_region_ht 5 (fun W => W.cell? ⟨w.heap.size, 0, none⟩ = some (.pointer (some ⟨d, 0, none⟩)) ∧ W.cell? ⟨w.heap.size + 1, 0, none⟩ = some (.string (bs n))) (by kernel_rfl) (by kernel_rfl) ?_ (fun hHeld => ?_)
 · exact ⟨k2, k3⟩
 try simp only [Act.put, List.setIfInBounds_toArray, List.set_cons_zero, List.set_cons_succ]
 refine wpHT_takeD (i := 0) (d := 5) (v := ?_) (by kernel_rfl) rfl rfl (by decide) (by kernel_rfl) (by kernel_rfl) (fun _ _ _ h => h) (Or.inl ⟨by kernel_rfl, ?_⟩) (by assumption) ?_
 rotate_left
 · intro w hSw; (try dsimp only at hSw); go_simp; (try with_reducible rfl)
 try simp only [Act.put, List.setIfInBounds_toArray, List.set_cons_zero, List.set_cons_succ]
 refine wpHT_takeD (i := 1) (d := 6) (v := ?_) (by kernel_rfl) rfl rfl (by decide) (by kernel_rfl) (by kernel_rfl) (fun _ _ _ h => h) (Or.inl ⟨by kernel_rfl, ?_⟩) (by assumption) ?_
 rotate_left
 · intro w hSw; (try dsimp only at hSw); go_simp; (try with_reducible rfl)
 try simp only [Act.put, List.setIfInBounds_toArray, List.set_cons_zero, List.set_cons_succ]
 refine wpHT_takeD (i := 2) (d := 7) (v := ?_) (by kernel_rfl) rfl rfl (by decide) (by kernel_rfl) (by kernel_rfl) (fun _ _ _ h => h) (Or.inl ⟨by kernel_rfl, ?_⟩) (by assumption) ?_
 rotate_left
 · intro w hSw; (try dsimp only at hSw); go_simp; (try with_reducible rfl)
 try simp only [Act.put, List.setIfInBounds_toArray, List.set_cons_zero, List.set_cons_succ]
 refine wpHT_takeD (i := 4) (d := 9) (v := ?_) (by kernel_rfl) rfl rfl (by decide) (by kernel_rfl) (by kernel_rfl) (fun _ _ _ h => h) (Or.inl ⟨by kernel_rfl, ?_⟩) (by assumption) ?_
 rotate_left
 · intro w hSw; (try dsimp only at hSw); go_simp; (try with_reducible rfl)
 try simp only [Act.put, List.setIfInBounds_toArray, List.set_cons_zero, List.set_cons_succ]
 refine wpHT_one (i := 3) (by kernel_rfl) rfl (by decide) (fun K hK => ?_)
 go_simp
 go_at_call 87
 refine (HH.out).mono ?_
 rintro e W ⟨rfl, rfl⟩
 refine hK.out _ _ ?_ (fun hHeld => ?_)
 · exact ⟨k2, k3⟩
 clear hK K
 try simp only [Act.put, List.setIfInBounds_toArray, List.set_cons_zero, List.set_cons_succ]
 refine wpHT_done (by kernel_rfl) ?_
 simp only [List.drop_succ_cons, List.drop_zero]
 clear hHeld
 go_wp2_with (first | (go_at_call 73; ((with_reducible refine (HW.out).mono ?_); rintro e w' ⟨rfl, hd⟩; have HD := Lib.hid hd; clear hd)))
 go_ret
 exact ⟨rfl, HD.out⟩

set_option maxHeartbeats 1000000 in
theorem cut_any (d : Nat) (S : Nat → Prop) (B : Int) (hB : B < 1000000000000) (s : DS) (n : List UInt8) (hn : n.length ≤ 9223372036854775807) (x : Int) (w : World) (h : DkS B w d S s) :
 Calls Tryz.prog 83 #[.pointer (some ⟨d, 0, none⟩), .string (bs n), .int .i64 x] w (Told B w d S (cutS s n x)) := by
 obtain ⟨hf, k2, k3, k4⟩ := boxed3 w (.pointer (some ⟨d, 0, none⟩)) (.string (bs n)) (.int .i64 x) 27 9 3
 have HH := Lib.hid (has_S d S B s n hn (((w.alloc (.cells #[.pointer (some ⟨d, 0, none⟩)] 27)).alloc (.cells #[.string (bs n)] 9)).alloc (.cells #[.int .i64 x] 3)) (h.kept hf))
 have H0 := Lib.hid h
 have HF := Lib.hid hf
 have h3 := h.kept hf
 clear hf
 cases hg : getF n s.fs with
 | none =>
  have hE : cutE s n x = 8 := by unfold cutE; rw [hg]
  have hE2 : hasE s n = 8 := by unfold hasE; rw [hg]; rfl
  rw [hE2] at HH
  clear hg h h3 hE2
  have HE := Lib.hid hE
  clear hE
  go_enter Tryz.func83, Tryz.ntmps83
  go_wp2_with (first | (go_at_call 87; ((with_reducible refine (HH.out).mono ?_); rintro e w' ⟨rfl, rfl⟩)))
  go_quiet (fail)
  have HW := Lib.hid (cutW d S B hB s n hn x w H0.out ((((w.alloc (.cells #[.pointer (some ⟨d, 0, none⟩)] 27)).alloc (.cells #[.string (bs n)] 9)).alloc (.cells #[.int .i64 x] 3)).drewN nq) (HF.out.drewN nq) k2 k3 k4)
  rw [HE.out] at HW
  go_wp2_with (first | (go_at_call 73; ((with_reducible refine (HW.out).mono ?_); rintro e w' ⟨rfl, hd⟩; have HD := Lib.hid hd; clear hd)))
  go_ret
  exact ⟨rfl, HD.out⟩
 | some f =>
  obtain ⟨m, L, hD, hL, hC, hS, hok⟩ := h3
  obtain ⟨c, hgC, rfl⟩ := names_some hL hg
  obtain ⟨hcL, hcn⟩ := getC_some hgC
  obtain ⟨hcb, hco⟩ := hD.hc c hcL
  obtain ⟨a, cap, hv, hah, hdc, hcap⟩ := hco.sl
  rw [hv] at hcb
  have hl : ∀ i, (Instr.lookup 64 (.map (some m)) (.string (bs n)) false).run Tryz.prog ((((w.alloc (.cells #[.pointer (some ⟨d, 0, none⟩)] 27)).alloc (.cells #[.string (bs n)] 9)).alloc (.cells #[.int .i64 x] 3)).drewN i) = .ok (.pointer (some ⟨c.b, 0, none⟩)) ((((w.alloc (.cells #[.pointer (some ⟨d, 0, none⟩)] 27)).alloc (.cells #[.string (bs n)] 9)).alloc (.cells #[.int .i64 x] 3)).drewN i) := fun i => look_at (ownsMap_block hD.hm rfl) hn hgC
  have c0 := cell_of_row (((w.alloc (.cells #[.pointer (some ⟨d, 0, none⟩)] 27)).alloc (.cells #[.string (bs n)] 9)).alloc (.cells #[.int .i64 x] 3)) d 0 _ _ _ hD.hd
  have g0 := cell_of_row (((w.alloc (.cells #[.pointer (some ⟨d, 0, none⟩)] 27)).alloc (.cells #[.string (bs n)] 9)).alloc (.cells #[.int .i64 x] 3)) c.b 0 _ _ _ hcb
  have hE2 : hasE s n = 0 := by unfold hasE; rw [hg]; rfl
  rw [hE2] at HH
  rcases (by omega : x < 0 ∨ (0 ≤ x ∧ (c.dt.length : Int) < x) ∨ (0 ≤ x ∧ x ≤ c.dt.length)) with hx | hx | hx
  case' inl =>
   have hE : cutE s n x = 1 := by unfold cutE; rw [hg]; exact if_pos (.inl hx)
   have d1 : decide (x < 0) = true := by simpa using hx
  case' inr.inl =>
   have hE : cutE s n x = 1 := by unfold cutE; rw [hg]; exact if_pos (.inr hx.2)
   have d1 : decide (x < 0) = false := by simp; omega
   have d2 : decide ((c.dt.length : Int) < x) = true := by simp; omega
  case' inr.inr =>
   have hE : cutE s n x = 0 := by unfold cutE; rw [hg]; exact if_neg (by show ¬ (x < 0 ∨ (c.dt.length : Int) < x); omega)
   have d1 : decide (x < 0) = false := by simp; omega
   have d2 : decide ((c.dt.length : Int) < x) = false := by simp; omega
  all_goals
   clear h hg hE2 hD hL hC hS hok hgC hcL hcn hcb hco hv hah
   have HE := Lib.hid hE
   clear hE
   go_enter Tryz.func83, Tryz.ntmps83
   go_wp2_with (first | (go_at_call 87; ((with_reducible refine (HH.out).mono ?_); rintro e w' ⟨rfl, rfl⟩)))
   go_quiet (fail)
   have HW := Lib.hid (cutW d S B hB s n hn x w H0.out ((((w.alloc (.cells #[.pointer (some ⟨d, 0, none⟩)] 27)).alloc (.cells #[.string (bs n)] 9)).alloc (.cells #[.int .i64 x] 3)).drewN nq) (HF.out.drewN nq) k2 k3 k4)
   rw [HE.out] at HW
   clear hl
   go_wp2_with (first | (go_at_call 73; ((with_reducible refine (HW.out).mono ?_); rintro e w' ⟨rfl, hd⟩; have HD := Lib.hid hd; clear hd)))
   go_ret
   exact ⟨rfl, HD.out⟩

end Go.Proofs.YtjjcilinghgphaaGreat
