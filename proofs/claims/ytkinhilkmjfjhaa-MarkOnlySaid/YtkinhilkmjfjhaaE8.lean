/-
  The disk's methods that write, over a disk in a state. Written by a program (e8gen.py).
-/
import Derived.Test.YtkinhilkmjfjhaaE7
namespace Go.Proofs.Ytkinhilkmjfjhaa
open Go.RowKit Go.Maps
set_option maxRecDepth 100000
attribute [local go_sem] bs_size bs_toList
theorem boxed2 (w : World) (u v : Value) (t1 t2 : TypeId) : Fr (fun _ => False) w ((w.alloc (.cells #[u] t1)).alloc (.cells #[v] t2)) ∧ ((w.alloc (.cells #[u] t1)).alloc (.cells #[v] t2)).cell? ⟨w.heap.size, 0, none⟩ = some u ∧ ((w.alloc (.cells #[u] t1)).alloc (.cells #[v] t2)).cell? ⟨w.heap.size + 1, 0, none⟩ = some v := by
  refine ⟨((Fr.refl _ w).alloc _).alloc _, cell_alloc_keep (cell_of_row _ w.heap.size 0 #[u] t1 _ (heap_alloc_new w _)), ?_⟩
  simp
theorem boxed3 (w : World) (u v x : Value) (t1 t2 t3 : TypeId) : Fr (fun _ => False) w (((w.alloc (.cells #[u] t1)).alloc (.cells #[v] t2)).alloc (.cells #[x] t3)) ∧ (((w.alloc (.cells #[u] t1)).alloc (.cells #[v] t2)).alloc (.cells #[x] t3)).cell? ⟨w.heap.size, 0, none⟩ = some u ∧ (((w.alloc (.cells #[u] t1)).alloc (.cells #[v] t2)).alloc (.cells #[x] t3)).cell? ⟨w.heap.size + 1, 0, none⟩ = some v ∧ (((w.alloc (.cells #[u] t1)).alloc (.cells #[v] t2)).alloc (.cells #[x] t3)).cell? ⟨w.heap.size + 2, 0, none⟩ = some x := by
  obtain ⟨h1, h2, h3⟩ := boxed2 w u v t1 t2
  refine ⟨h1.alloc _, cell_alloc_keep h2, cell_alloc_keep h3, ?_⟩
  have := cell_of_row (((w.alloc (.cells #[u] t1)).alloc (.cells #[v] t2)).alloc (.cells #[x] t3)) ((w.alloc (.cells #[u] t1)).alloc (.cells #[v] t2)).heap.size 0 #[x] t3 _ (heap_alloc_new _ _)
  simp at this
  exact this
theorem Fr.any {S : Nat → Prop} {w w' : World} (h : Fr (fun _ => False) w w') : Fr S w w' := h.mono fun _ _ h => h.elim
/-- What a method that writes tells and leaves. -/
def Told (B : Int) (w : World) (d : Nat) (S : Nat → Prop) (r : DS × Int) (x : Ending) (w' : World) : Prop := x = .returned (.int .i64 r.2) ∧ Done (B + 1) w d S r.1 w'
theorem DkS.kept {B : Int} {w W : World} {d : Nat} {S : Nat → Prop} {s : DS} (h : DkS B w d S s) (hf : Fr (fun _ => False) w W) : DkS B W d S s := h.keep hf fun _ _ h => h
theorem DkS.d0 {B : Int} {w : World} {d : Nat} {S : Nat → Prop} {s : DS} (h : DkS B w d S s) : ∃ m L k, w.cell? ⟨d, 0, none⟩ = some (.map (some m)) ∧ w.ownsMap Try.prog 9 ptrE m k (mapOf L) ∧ L.map Cel.f = s.fs := by
  obtain ⟨m, L, hD, hL, _⟩ := h
  exact ⟨m, L, _, cell_of_row w d 0 _ _ _ hD.hd, hD.hm, hL⟩
theorem new_not {B : Int} {w : World} {d : Nat} {S : Nat → Prop} {s : DS} (h : DkS B w d S s) (k : Nat) : ¬ S (w.heap.size + k) := fun e => by have := h.lt _ e; omega
theorem new_not0 {B : Int} {w : World} {d : Nat} {S : Nat → Prop} {s : DS} (h : DkS B w d S s) : ¬ S w.heap.size := fun e => by have := h.lt _ e; omega
theorem Fr.cellk {S : Nat → Prop} {w w' : World} (h : Fr S w w') {b : Nat} {v : Value} (hc : w.cell? ⟨b, 0, none⟩ = some v) (hn : ¬ S b) : w'.cell? ⟨b, 0, none⟩ = some v := (h.cell (p := ⟨b, 0, none⟩) (World.block_lt_of_cell? _ _ hc) hn).trans hc
theorem createW (d : Nat) (S : Nat → Prop) (B : Int) (hB : B < 1000000000000) (s : DS) (n : List UInt8) (w : World) (h : DkS B w d S s) (W : World) (hf : Fr (fun _ => False) w W)
    (k2 : W.cell? ⟨w.heap.size, 0, none⟩ = some (.pointer (some ⟨d, 0, none⟩))) (k3 : W.cell? ⟨w.heap.size + 1, 0, none⟩ = some (.string (bs n))) :
    Calls Try.prog 26 #[.pointer (some ⟨d, 0, none⟩), .int .i64 (creE s n), .func (.func 27) #[] #[.pointer (some ⟨w.heap.size, 0, none⟩), .pointer (some ⟨w.heap.size + 1, 0, none⟩)]] W (Told B w d S (createS s n)) := by
  refine (write_create_S d S B hB s (creE s n) _ (fun s => { s with fs := insF ⟨n, [], 0⟩ s.fs }) W (h.kept hf) fun hdn he _ W1 hf1 h1 => ?_).mono ?_
  · unfold creE at he
    split at he
    · cases he
    · split at he
      · cases he
      · split at he
        · cases he
        · exact create1_S _ _ d S (B + 1) (fallS s).1 n (by simpa using ‹¬ (!nameOk n) = true›) (by rw [fallS_fs]; simpa using ‹¬ (getF n s.fs).isSome = true›) (by rw [fallS_fs]; omega) W1 (hf1.cellk k2 (new_not0 h)) (hf1.cellk k3 (new_not h 1)) h1
  · rintro x w' ⟨rfl, hd⟩
    exact ⟨rfl, Done.trans0 hf.any hd⟩
theorem syncW (d : Nat) (S : Nat → Prop) (B : Int) (hB : B < 1000000000000) (s : DS) (n : List UInt8) (hn : n.length ≤ 9223372036854775807) (w : World) (h : DkS B w d S s) (W : World) (hf : Fr (fun _ => False) w W)
    (k2 : W.cell? ⟨w.heap.size, 0, none⟩ = some (.pointer (some ⟨d, 0, none⟩))) (k3 : W.cell? ⟨w.heap.size + 1, 0, none⟩ = some (.string (bs n))) :
    Calls Try.prog 26 #[.pointer (some ⟨d, 0, none⟩), .int .i64 (hasE s n), .func (.func 64) #[] #[.pointer (some ⟨w.heap.size, 0, none⟩), .pointer (some ⟨w.heap.size + 1, 0, none⟩)]] W (Told B w d S (syncS s n)) := by
  refine (write_sync_S d S B hB s (hasE s n) _ (fun s => { s with fs := updF n (fun f => ⟨f.nm, f.dt, f.dt.length⟩) s.fs }) W (h.kept hf) fun hdn he _ W1 hf1 h1 => ?_).mono ?_
  · unfold hasE at he
    cases hg : getF n s.fs with
    | none => rw [hg] at he; cases he
    | some f => exact sync1_S _ _ d S (B + 1) (fallS s).1 n hn f (by rw [fallS_fs]; exact hg) W1 (hf1.cellk k2 (new_not0 h)) (hf1.cellk k3 (new_not h 1)) h1
  · rintro x w' ⟨rfl, hd⟩
    exact ⟨rfl, Done.trans0 hf.any hd⟩
theorem removeW (d : Nat) (S : Nat → Prop) (B : Int) (hB : B < 1000000000000) (s : DS) (n : List UInt8) (hn : n.length ≤ 9223372036854775807) (w : World) (h : DkS B w d S s) (W : World) (hf : Fr (fun _ => False) w W)
    (k2 : W.cell? ⟨w.heap.size, 0, none⟩ = some (.pointer (some ⟨d, 0, none⟩))) (k3 : W.cell? ⟨w.heap.size + 1, 0, none⟩ = some (.string (bs n))) :
    Calls Try.prog 26 #[.pointer (some ⟨d, 0, none⟩), .int .i64 (hasE s n), .func (.func 57) #[] #[.pointer (some ⟨w.heap.size, 0, none⟩), .pointer (some ⟨w.heap.size + 1, 0, none⟩)]] W (Told B w d S (removeS s n)) := by
  refine (write_remove_S d S B hB s (hasE s n) _ (fun s => { s with fs := delF n s.fs }) W (h.kept hf) fun hdn he _ W1 hf1 h1 => ?_).mono ?_
  · exact remove1_S _ _ d S (B + 1) (fallS s).1 n hn W1 (hf1.cellk k2 (new_not0 h)) (hf1.cellk k3 (new_not h 1)) h1
  · rintro x w' ⟨rfl, hd⟩
    exact ⟨rfl, Done.trans0 hf.any hd⟩
theorem renameW (d : Nat) (S : Nat → Prop) (B : Int) (hB : B < 1000000000000) (s : DS) (a b : List UInt8) (ha : a.length ≤ 9223372036854775807) (w : World) (h : DkS B w d S s) (W : World) (hf : Fr (fun _ => False) w W)
    (k2 : W.cell? ⟨w.heap.size, 0, none⟩ = some (.pointer (some ⟨d, 0, none⟩))) (k3 : W.cell? ⟨w.heap.size + 1, 0, none⟩ = some (.string (bs a))) (k4 : W.cell? ⟨w.heap.size + 2, 0, none⟩ = some (.string (bs b))) :
    Calls Try.prog 26 #[.pointer (some ⟨d, 0, none⟩), .int .i64 (renE s a b), .func (.func 65) #[] #[.pointer (some ⟨w.heap.size + 1, 0, none⟩), .pointer (some ⟨w.heap.size + 2, 0, none⟩), .pointer (some ⟨w.heap.size, 0, none⟩)]] W (Told B w d S (renameS s a b)) := by
  refine (write_rename_S d S B hB s (renE s a b) _ (fun s => { s with fs := renL a b s.fs }) W (h.kept hf) fun hdn he _ W1 hf1 h1 => ?_).mono ?_
  · unfold renE at he
    cases hg : getF a s.fs with
    | none => rw [hg] at he; cases he
    | some f =>
      rw [hg] at he
      have hb : nameOk b = true := by
        cases hb : nameOk b with
        | true => rfl
        | false => rw [hb] at he; cases he
      exact rename1_S _ _ _ d S (B + 1) (fallS s).1 a b ha hb f (by rw [fallS_fs]; exact hg) W1 (hf1.cellk k3 (new_not h 1)) (hf1.cellk k4 (new_not h 2)) (hf1.cellk k2 (new_not0 h)) (new_not h 1) (new_not h 2) (new_not0 h) h1
  · rintro x w' ⟨rfl, hd⟩
    exact ⟨rfl, Done.trans0 hf.any hd⟩

/-! ### the walks -/
set_option maxHeartbeats 1000000 in
theorem create_any (d : Nat) (S : Nat → Prop) (B : Int) (hB : B < 1000000000000) (s : DS) (n : List UInt8) (hn : n.length ≤ 9223372036854775807) (w : World) (h : DkS B w d S s) :
    Calls Try.prog 8 #[.pointer (some ⟨d, 0, none⟩), .string (bs n)] w (Told B w d S (createS s n)) := by
  obtain ⟨hf, k2, k3⟩ := boxed2 w (.pointer (some ⟨d, 0, none⟩)) (.string (bs n)) 24 9
  have HW := Lib.hid (createW d S B hB s n w h)
  have HF := Lib.hid hf
  have HW2 : Hid (Calls Try.prog 26 #[.pointer (some ⟨d, 0, none⟩), .int .i64 (creE s n), .func (.func 27) #[] #[.pointer (some ⟨w.heap.size, 0, none⟩), .pointer (some ⟨w.heap.size + 1, 0, none⟩)]] ((w.alloc (.cells #[.pointer (some ⟨d, 0, none⟩)] 24)).alloc (.cells #[.string (bs n)] 9)).drew (Told B w d S (createS s n))) := createW d S B hB s n w h ((w.alloc (.cells #[.pointer (some ⟨d, 0, none⟩)] 24)).alloc (.cells #[.string (bs n)] 9)).drew hf.drew k2 k3
  obtain ⟨m, L, k, c0, hm, hL⟩ := (h.kept hf).d0
  have HM := Lib.hid hm
  have hlen : L.length = s.fs.length := len_of hL
  have hl64 := h.ok.len
  clear hf hm h
  cases hnm : nameOk n with
  | false =>
    have hE : creE s n = 10 := by unfold creE; rw [hnm]; rfl
    rw [hE] at HW HW2
    go_enter Try.func8, Try.ntmps8
    go_wp2_with (first | (go_at_call 25; ((with_reducible refine (name_any n _ hn).mono ?_); rintro e w' ⟨rfl, rfl⟩)) | (go_at_call 26; ((with_reducible refine (HW.out _ HF.out k2 k3).mono ?_); rintro e w' ⟨rfl, hd⟩; have HD := Lib.hid hd; clear hd)))
    go_ret
    exact ⟨rfl, HD.out⟩
  | true =>
    cases hg : getC n L with
    | some c =>
      have hl := look_at (w := ((w.alloc (.cells #[.pointer (some ⟨d, 0, none⟩)] 24)).alloc (.cells #[.string (bs n)] 9)).drew) HM.out.drew hn hg
      have hE : creE s n = 9 := by unfold creE; rw [hnm, ← hL, getC_f, hg]; rfl
      rw [hE] at HW HW2
      clear hg
      go_enter Try.func8, Try.ntmps8
      go_wp2_with (first | (go_at_call 25; ((with_reducible refine (name_any n _ hn).mono ?_); rintro e w' ⟨rfl, rfl⟩)))
      refine wp_region_ht 7 (fun W => W.cell? ⟨w.heap.size, 0, none⟩ = some (.pointer (some ⟨d, 0, none⟩)) ∧ W.cell? ⟨w.heap.size + 1, 0, none⟩ = some (.string (bs n)) ∧ W.cell? ⟨d, 0, none⟩ = some (.map (some m)) ∧ (Instr.lookup 69 (.map (some m)) (.string (bs n)) false).run Try.prog W = .ok (.pointer (some ⟨c.b, 0, none⟩)) W) (by kernel_rfl) (by kernel_rfl) ?_ (fun hHeld => ?_)
      · exact ⟨k2, k3, c0, hl⟩
      try simp only [Act.put, List.setIfInBounds_toArray, List.set_cons_zero, List.set_cons_succ]
      refine wpHT_takeD (i := 0) (d := 11) (v := ?_) (by kernel_rfl) rfl rfl (by decide) (by kernel_rfl) (by kernel_rfl) (fun _ _ _ h => h) (Or.inl ⟨by kernel_rfl, ?_⟩) (by assumption) ?_
      rotate_left
      · intro w hSw; (try dsimp only at hSw); go_simp; (try with_reducible rfl)
      try simp only [Act.put, List.setIfInBounds_toArray, List.set_cons_zero, List.set_cons_succ]
      refine wpHT_takeD (i := 1) (d := 12) (v := ?_) (by kernel_rfl) rfl rfl (by decide) (by kernel_rfl) (by kernel_rfl) (fun _ _ _ h => h) (Or.inl ⟨by kernel_rfl, ?_⟩) (by assumption) ?_
      rotate_left
      · intro w hSw; (try dsimp only at hSw); go_simp; (try with_reducible rfl)
      try simp only [Act.put, List.setIfInBounds_toArray, List.set_cons_zero, List.set_cons_succ]
      refine wpHT_takeD (i := 2) (d := 13) (v := ?_) (by kernel_rfl) rfl rfl (by decide) (by kernel_rfl) (by kernel_rfl) (fun _ _ _ h => h) (Or.inl ⟨by kernel_rfl, ?_⟩) (by assumption) ?_
      rotate_left
      · intro w hSw; (try dsimp only at hSw); go_simp; (try with_reducible rfl)
      try simp only [Act.put, List.setIfInBounds_toArray, List.set_cons_zero, List.set_cons_succ]
      refine wpHT_takeD (i := 3) (d := 14) (v := ?_) (by kernel_rfl) rfl rfl (by decide) (by kernel_rfl) (by kernel_rfl) (fun _ _ _ h => h) (Or.inl ⟨by kernel_rfl, ?_⟩) (by assumption) ?_
      rotate_left
      · intro w hSw; (try dsimp only at hSw); go_simp; (try with_reducible rfl)
      try simp only [Act.put, List.setIfInBounds_toArray, List.set_cons_zero, List.set_cons_succ]
      refine wpHT_takeD (i := 4) (d := 15) (v := ?_) (by kernel_rfl) rfl rfl (by decide) (by kernel_rfl) (by kernel_rfl) (fun _ _ _ h => h) (Or.inl ⟨by kernel_rfl, ?_⟩) (by assumption) ?_
      rotate_left
      · intro w hSw; (try dsimp only at hSw); go_simp; (try with_reducible rfl)
      try simp only [Act.put, List.setIfInBounds_toArray, List.set_cons_zero, List.set_cons_succ]
      refine wpHT_takeD (i := 5) (d := 16) (v := ?_) (by kernel_rfl) rfl rfl (by decide) (by kernel_rfl) (by kernel_rfl) (fun _ _ _ h => h) (Or.inl ⟨by kernel_rfl, ?_⟩) (by assumption) ?_
      rotate_left
      · intro w hSw; (try dsimp only at hSw); go_simp; (try with_reducible rfl)
      try simp only [Act.put, List.setIfInBounds_toArray, List.set_cons_zero, List.set_cons_succ]
      refine wpHT_takeD (i := 6) (d := 17) (v := ?_) (by kernel_rfl) rfl rfl (by decide) (by kernel_rfl) (by kernel_rfl) (fun _ _ _ h => h) (Or.inl ⟨by kernel_rfl, ?_⟩) (by assumption) ?_
      rotate_left
      · intro w hSw; (try dsimp only at hSw); go_simp; (try with_reducible rfl)
      try simp only [Act.put, List.setIfInBounds_toArray, List.set_cons_zero, List.set_cons_succ]
      refine wpHT_done (by kernel_rfl) ?_
      simp only [List.drop_succ_cons, List.drop_zero]
      clear hHeld hl
      go_wp2_with (first | (go_at_call 26; ((with_reducible refine (HW2.out).mono ?_); rintro e w' ⟨rfl, hd⟩; have HD := Lib.hid hd; clear hd)))
      go_ret
      exact ⟨rfl, HD.out⟩
    | none =>
      have hl : (Instr.lookup 69 (.map (some m)) (.string (bs n)) false).run Try.prog ((w.alloc (.cells #[.pointer (some ⟨d, 0, none⟩)] 24)).alloc (.cells #[.string (bs n)] 9)).drew = .ok (.pointer none) ((w.alloc (.cells #[.pointer (some ⟨d, 0, none⟩)] 24)).alloc (.cells #[.string (bs n)] 9)).drew := by
        have := look_run (w := ((w.alloc (.cells #[.pointer (some ⟨d, 0, none⟩)] 24)).alloc (.cells #[.string (bs n)] 9)).drew) HM.out.drew n hn
        rw [hg] at this; exact this
      rcases Nat.lt_or_ge L.length 64 with h64 | h64
      case' inl => have hd64 : decide ((64 : Int) ≤ L.length) = false := by simp; omega
      case' inr => have hd64 : decide ((64 : Int) ≤ L.length) = true := by simp; omega
      case' inl => have hE : creE s n = 0 := by unfold creE; rw [hnm, ← hL, getC_f, hg]; simp; omega
      case' inr => have hE : creE s n = 3 := by unfold creE; rw [hnm, ← hL, getC_f, hg]; simp; omega
      all_goals
        rw [hE] at HW HW2
        clear hg
        go_enter Try.func8, Try.ntmps8
        go_wp2_with (first | (go_at_call 25; ((with_reducible refine (name_any n _ hn).mono ?_); rintro e w' ⟨rfl, rfl⟩)))
        refine wp_region_ht 7 (fun W => W.cell? ⟨w.heap.size, 0, none⟩ = some (.pointer (some ⟨d, 0, none⟩)) ∧ W.cell? ⟨w.heap.size + 1, 0, none⟩ = some (.string (bs n)) ∧ W.cell? ⟨d, 0, none⟩ = some (.map (some m)) ∧ (Instr.lookup 69 (.map (some m)) (.string (bs n)) false).run Try.prog W = .ok (.pointer none) W) (by kernel_rfl) (by kernel_rfl) ?_ (fun hHeld => ?_)
        · exact ⟨k2, k3, c0, hl⟩
        try simp only [Act.put, List.setIfInBounds_toArray, List.set_cons_zero, List.set_cons_succ]
        refine wpHT_takeD (i := 0) (d := 11) (v := ?_) (by kernel_rfl) rfl rfl (by decide) (by kernel_rfl) (by kernel_rfl) (fun _ _ _ h => h) (Or.inl ⟨by kernel_rfl, ?_⟩) (by assumption) ?_
        rotate_left
        · intro w hSw; (try dsimp only at hSw); go_simp; (try with_reducible rfl)
        try simp only [Act.put, List.setIfInBounds_toArray, List.set_cons_zero, List.set_cons_succ]
        refine wpHT_takeD (i := 1) (d := 12) (v := ?_) (by kernel_rfl) rfl rfl (by decide) (by kernel_rfl) (by kernel_rfl) (fun _ _ _ h => h) (Or.inl ⟨by kernel_rfl, ?_⟩) (by assumption) ?_
        rotate_left
        · intro w hSw; (try dsimp only at hSw); go_simp; (try with_reducible rfl)
        try simp only [Act.put, List.setIfInBounds_toArray, List.set_cons_zero, List.set_cons_succ]
        refine wpHT_takeD (i := 2) (d := 13) (v := ?_) (by kernel_rfl) rfl rfl (by decide) (by kernel_rfl) (by kernel_rfl) (fun _ _ _ h => h) (Or.inl ⟨by kernel_rfl, ?_⟩) (by assumption) ?_
        rotate_left
        · intro w hSw; (try dsimp only at hSw); go_simp; (try with_reducible rfl)
        try simp only [Act.put, List.setIfInBounds_toArray, List.set_cons_zero, List.set_cons_succ]
        refine wpHT_takeD (i := 3) (d := 14) (v := ?_) (by kernel_rfl) rfl rfl (by decide) (by kernel_rfl) (by kernel_rfl) (fun _ _ _ h => h) (Or.inl ⟨by kernel_rfl, ?_⟩) (by assumption) ?_
        rotate_left
        · intro w hSw; (try dsimp only at hSw); go_simp; (try with_reducible rfl)
        try simp only [Act.put, List.setIfInBounds_toArray, List.set_cons_zero, List.set_cons_succ]
        refine wpHT_takeD (i := 4) (d := 15) (v := ?_) (by kernel_rfl) rfl rfl (by decide) (by kernel_rfl) (by kernel_rfl) (fun _ _ _ h => h) (Or.inl ⟨by kernel_rfl, ?_⟩) (by assumption) ?_
        rotate_left
        · intro w hSw; (try dsimp only at hSw); go_simp; (try with_reducible rfl)
        try simp only [Act.put, List.setIfInBounds_toArray, List.set_cons_zero, List.set_cons_succ]
        refine wpHT_takeD (i := 5) (d := 16) (v := ?_) (by kernel_rfl) rfl rfl (by decide) (by kernel_rfl) (by kernel_rfl) (fun _ _ _ h => h) (Or.inl ⟨by kernel_rfl, ?_⟩) (by assumption) ?_
        rotate_left
        · intro w hSw; (try dsimp only at hSw); go_simp; (try with_reducible rfl)
        try simp only [Act.put, List.setIfInBounds_toArray, List.set_cons_zero, List.set_cons_succ]
        refine wpHT_takeD (i := 6) (d := 17) (v := ?_) (by kernel_rfl) rfl rfl (by decide) (by kernel_rfl) (by kernel_rfl) (fun _ _ _ h => h) (Or.inl ⟨by kernel_rfl, ?_⟩) (by assumption) ?_
        rotate_left
        · intro w hSw; (try dsimp only at hSw); go_simp; (try with_reducible rfl)
        try simp only [Act.put, List.setIfInBounds_toArray, List.set_cons_zero, List.set_cons_succ]
        refine wpHT_done (by kernel_rfl) ?_
        simp only [List.drop_succ_cons, List.drop_zero]
        clear hHeld hl
        go_wp2_with (first | (at_len; refine wpList_len_own _ rfl _ 69 rfl 9 73 Try.underlying69 ptrE m k (mapOf L) rfl HM.out.drew ?_; rw [mapOf_size]) | (go_at_call 26; ((with_reducible refine (HW2.out).mono ?_); rintro e w' ⟨rfl, hd⟩; have HD := Lib.hid hd; clear hd)))
        go_ret
        exact ⟨rfl, HD.out⟩

theorem noneE_has {L : List Cel} {s : DS} (hL : L.map Cel.f = s.fs) (n : List UInt8) : noneE (getC n L) = hasE s n := by
  unfold hasE
  rw [← hL, getC_f]
  cases getC n L <;> rfl
/-- 'has' over a disk in a state. -/
theorem has_S (d : Nat) (S : Nat → Prop) (B : Int) (s : DS) (n : List UInt8) (hn : n.length ≤ 9223372036854775807) (w : World) (h : DkS B w d S s) :
    Calls Try.prog 56 #[.pointer (some ⟨d, 0, none⟩), .string (bs n)] w fun e w' => e = .returned (.int .i64 (hasE s n)) ∧ w = w' := by
  obtain ⟨m, L, k, c0, hm, hL⟩ := h.d0
  rw [← noneE_has hL n]
  exact has_any d m k L n hn w c0 hm
set_option maxHeartbeats 1000000 in
theorem sync_any (d : Nat) (S : Nat → Prop) (B : Int) (hB : B < 1000000000000) (s : DS) (n : List UInt8) (hn : n.length ≤ 9223372036854775807) (w : World) (h : DkS B w d S s) :
    Calls Try.prog 33 #[.pointer (some ⟨d, 0, none⟩), .string (bs n)] w (Told B w d S (syncS s n)) := by
  obtain ⟨hf, k2, k3⟩ := boxed2 w (.pointer (some ⟨d, 0, none⟩)) (.string (bs n)) 24 9
  have HW := Lib.hid (syncW d S B hB s n hn w h ((w.alloc (.cells #[.pointer (some ⟨d, 0, none⟩)] 24)).alloc (.cells #[.string (bs n)] 9)).drew hf.drew k2 k3)
  have HH := Lib.hid (has_S d S B s n hn ((w.alloc (.cells #[.pointer (some ⟨d, 0, none⟩)] 24)).alloc (.cells #[.string (bs n)] 9)).drew (h.kept hf.drew))
  clear hf h
  go_enter Try.func33, Try.ntmps33
  go_wp2_with fail
  refine wp_region_ht 5 (fun W => W.cell? ⟨w.heap.size, 0, none⟩ = some (.pointer (some ⟨d, 0, none⟩)) ∧ W.cell? ⟨w.heap.size + 1, 0, none⟩ = some (.string (bs n))) (by kernel_rfl) (by kernel_rfl) ?_ (fun hHeld => ?_)
  · exact ⟨k2, k3⟩
  try simp only [Act.put, List.setIfInBounds_toArray, List.set_cons_zero, List.set_cons_succ]
  refine wpHT_takeD (i := 0) (d := 5) (v := ?_) (by kernel_rfl) rfl rfl (by decide) (by kernel_rfl) (by kernel_rfl) (fun _ _ _ h => h) (Or.inl ⟨by kernel_rfl, ?_⟩) (by assumption) ?_
  rotate_left
  · intro w hSw; (try dsimp only at hSw); go_simp; (try with_reducible rfl)
  try simp only [Act.put, List.setIfInBounds_toArray, List.set_cons_zero, List.set_cons_succ]
  refine wpHT_takeD (i := 1) (d := 6) (v := ?_) (by kernel_rfl) rfl rfl (by decide) (by kernel_rfl) (by kernel_rfl) (fun _ _ _ h => h) (Or.inl ⟨by kernel_rfl, ?_⟩) (by assumption) ?_
  rotate_left
  · intro w hSw; (try dsimp only at hSw); go_simp; (try with_reducible rfl)
  try simp only [Act.put, List.setIfInBounds_toArray, List.set_cons_zero, List.set_cons_succ]
  refine wpHT_takeD (i := 2) (d := 7) (v := ?_) (by kernel_rfl) rfl rfl (by decide) (by kernel_rfl) (by kernel_rfl) (fun _ _ _ h => h) (Or.inl ⟨by kernel_rfl, ?_⟩) (by assumption) ?_
  rotate_left
  · intro w hSw; (try dsimp only at hSw); go_simp; (try with_reducible rfl)
  try simp only [Act.put, List.setIfInBounds_toArray, List.set_cons_zero, List.set_cons_succ]
  refine wpHT_takeD (i := 4) (d := 9) (v := ?_) (by kernel_rfl) rfl rfl (by decide) (by kernel_rfl) (by kernel_rfl) (fun _ _ _ h => h) (Or.inl ⟨by kernel_rfl, ?_⟩) (by assumption) ?_
  rotate_left
  · intro w hSw; (try dsimp only at hSw); go_simp; (try with_reducible rfl)
  try simp only [Act.put, List.setIfInBounds_toArray, List.set_cons_zero, List.set_cons_succ]
  refine wpHT_one (i := 3) (by kernel_rfl) rfl (by decide) (fun K hK => ?_)
  go_simp
  go_at_call 56
  refine (HH.out).mono ?_
  rintro e W ⟨rfl, rfl⟩
  refine hK.out _ _ ?_ (fun hHeld => ?_)
  · exact ⟨k2, k3⟩
  clear hK K
  try simp only [Act.put, List.setIfInBounds_toArray, List.set_cons_zero, List.set_cons_succ]
  refine wpHT_done (by kernel_rfl) ?_
  simp only [List.drop_succ_cons, List.drop_zero]
  clear hHeld
  go_wp2_with (first | (go_at_call 26; ((with_reducible refine (HW.out).mono ?_); rintro e w' ⟨rfl, hd⟩; have HD := Lib.hid hd; clear hd)))
  go_ret
  exact ⟨rfl, HD.out⟩

set_option maxHeartbeats 1000000 in
theorem remove_any (d : Nat) (S : Nat → Prop) (B : Int) (hB : B < 1000000000000) (s : DS) (n : List UInt8) (hn : n.length ≤ 9223372036854775807) (w : World) (h : DkS B w d S s) :
    Calls Try.prog 30 #[.pointer (some ⟨d, 0, none⟩), .string (bs n)] w (Told B w d S (removeS s n)) := by
  obtain ⟨hf, k2, k3⟩ := boxed2 w (.pointer (some ⟨d, 0, none⟩)) (.string (bs n)) 24 9
  have HW := Lib.hid (removeW d S B hB s n hn w h ((w.alloc (.cells #[.pointer (some ⟨d, 0, none⟩)] 24)).alloc (.cells #[.string (bs n)] 9)).drew hf.drew k2 k3)
  have HH := Lib.hid (has_S d S B s n hn ((w.alloc (.cells #[.pointer (some ⟨d, 0, none⟩)] 24)).alloc (.cells #[.string (bs n)] 9)).drew (h.kept hf.drew))
  clear hf h
  go_enter Try.func30, Try.ntmps30
  go_wp2_with fail
  refine wp_region_ht 5 (fun W => W.cell? ⟨w.heap.size, 0, none⟩ = some (.pointer (some ⟨d, 0, none⟩)) ∧ W.cell? ⟨w.heap.size + 1, 0, none⟩ = some (.string (bs n))) (by kernel_rfl) (by kernel_rfl) ?_ (fun hHeld => ?_)
  · exact ⟨k2, k3⟩
  try simp only [Act.put, List.setIfInBounds_toArray, List.set_cons_zero, List.set_cons_succ]
  refine wpHT_takeD (i := 0) (d := 5) (v := ?_) (by kernel_rfl) rfl rfl (by decide) (by kernel_rfl) (by kernel_rfl) (fun _ _ _ h => h) (Or.inl ⟨by kernel_rfl, ?_⟩) (by assumption) ?_
  rotate_left
  · intro w hSw; (try dsimp only at hSw); go_simp; (try with_reducible rfl)
  try simp only [Act.put, List.setIfInBounds_toArray, List.set_cons_zero, List.set_cons_succ]
  refine wpHT_takeD (i := 1) (d := 6) (v := ?_) (by kernel_rfl) rfl rfl (by decide) (by kernel_rfl) (by kernel_rfl) (fun _ _ _ h => h) (Or.inl ⟨by kernel_rfl, ?_⟩) (by assumption) ?_
  rotate_left
  · intro w hSw; (try dsimp only at hSw); go_simp; (try with_reducible rfl)
  try simp only [Act.put, List.setIfInBounds_toArray, List.set_cons_zero, List.set_cons_succ]
  refine wpHT_takeD (i := 2) (d := 7) (v := ?_) (by kernel_rfl) rfl rfl (by decide) (by kernel_rfl) (by kernel_rfl) (fun _ _ _ h => h) (Or.inl ⟨by kernel_rfl, ?_⟩) (by assumption) ?_
  rotate_left
  · intro w hSw; (try dsimp only at hSw); go_simp; (try with_reducible rfl)
  try simp only [Act.put, List.setIfInBounds_toArray, List.set_cons_zero, List.set_cons_succ]
  refine wpHT_takeD (i := 4) (d := 9) (v := ?_) (by kernel_rfl) rfl rfl (by decide) (by kernel_rfl) (by kernel_rfl) (fun _ _ _ h => h) (Or.inl ⟨by kernel_rfl, ?_⟩) (by assumption) ?_
  rotate_left
  · intro w hSw; (try dsimp only at hSw); go_simp; (try with_reducible rfl)
  try simp only [Act.put, List.setIfInBounds_toArray, List.set_cons_zero, List.set_cons_succ]
  refine wpHT_one (i := 3) (by kernel_rfl) rfl (by decide) (fun K hK => ?_)
  go_simp
  go_at_call 56
  refine (HH.out).mono ?_
  rintro e W ⟨rfl, rfl⟩
  refine hK.out _ _ ?_ (fun hHeld => ?_)
  · exact ⟨k2, k3⟩
  clear hK K
  try simp only [Act.put, List.setIfInBounds_toArray, List.set_cons_zero, List.set_cons_succ]
  refine wpHT_done (by kernel_rfl) ?_
  simp only [List.drop_succ_cons, List.drop_zero]
  clear hHeld
  go_wp2_with (first | (go_at_call 26; ((with_reducible refine (HW.out).mono ?_); rintro e w' ⟨rfl, hd⟩; have HD := Lib.hid hd; clear hd)))
  go_ret
  exact ⟨rfl, HD.out⟩

set_option maxHeartbeats 1000000 in
theorem rename_any (d : Nat) (S : Nat → Prop) (B : Int) (hB : B < 1000000000000) (s : DS) (a b : List UInt8) (ha : a.length ≤ 9223372036854775807) (hb : b.length ≤ 9223372036854775807) (w : World) (h : DkS B w d S s) :
    Calls Try.prog 34 #[.pointer (some ⟨d, 0, none⟩), .string (bs a), .string (bs b)] w (Told B w d S (renameS s a b)) := by
  obtain ⟨hf, k2, k3, k4⟩ := boxed3 w (.pointer (some ⟨d, 0, none⟩)) (.string (bs a)) (.string (bs b)) 24 9 9
  have HH := Lib.hid (has_S d S B s a ha (((w.alloc (.cells #[.pointer (some ⟨d, 0, none⟩)] 24)).alloc (.cells #[.string (bs a)] 9)).alloc (.cells #[.string (bs b)] 9)) (h.kept hf))
  have HW := Lib.hid (renameW d S B hB s a b ha w h (((w.alloc (.cells #[.pointer (some ⟨d, 0, none⟩)] 24)).alloc (.cells #[.string (bs a)] 9)).alloc (.cells #[.string (bs b)] 9)) hf k2 k3 k4)
  clear hf h
  cases hg : getF a s.fs with
  | none =>
    have hE : renE s a b = 8 := by unfold renE; rw [hg]; rfl
    have hE2 : hasE s a = 8 := by unfold hasE; rw [hg]; rfl
    rw [hE2] at HH
    rw [hE] at HW
    clear hg hE hE2
    go_enter Try.func34, Try.ntmps34
    go_wp2_with (first | (go_at_call 56; ((with_reducible refine (HH.out).mono ?_); rintro e w' ⟨rfl, rfl⟩)) | (go_at_call 26; ((with_reducible refine (HW.out).mono ?_); rintro e w' ⟨rfl, hd⟩; have HD := Lib.hid hd; clear hd)))
    go_ret
    exact ⟨rfl, HD.out⟩
  | some f =>
    have hE2 : hasE s a = 0 := by unfold hasE; rw [hg]; rfl
    rw [hE2] at HH
    cases hnb : nameOk b
    case' true => have hE : renE s a b = 0 := by unfold renE; rw [hg, hnb]; rfl
    case' false => have hE : renE s a b = 10 := by unfold renE; rw [hg, hnb]; rfl
    all_goals
      rw [hE] at HW
      clear hg hE hE2
      go_enter Try.func34, Try.ntmps34
      go_wp2_with (first | (go_at_call 56; ((with_reducible refine (HH.out).mono ?_); rintro e w' ⟨rfl, rfl⟩)) | (go_at_call 25; ((with_reducible refine (name_any b _ hb).mono ?_); rintro e w' ⟨rfl, rfl⟩)) | (go_at_call 26; ((with_reducible refine (HW.out).mono ?_); rintro e w' ⟨rfl, hd⟩; have HD := Lib.hid hd; clear hd)))
      go_ret
      exact ⟨rfl, HD.out⟩

end Go.Proofs.Ytkinhilkmjfjhaa
