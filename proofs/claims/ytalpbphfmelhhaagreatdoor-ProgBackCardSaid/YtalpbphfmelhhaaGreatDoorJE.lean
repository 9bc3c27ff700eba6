/-
  What was seen of keys: weighed, copied, compared; writes compared; texts in lists.
  What the chapter's examples fix (racelaw9.first).
  Programs, and what was seen, that came in (openers).
-/
import Derived.Test.YtalpbphfmelhhaaGreatDoorHX
import Derived.Test.YtalpbphfmelhhaaGreatDoorH8
import Derived.Test.YtalpbphfmelhhaaGreatDoorKA
import Derived.Test.YtalpbphfmelhhaaGreatDoorJC
import Derived.Test.YtalpbphfmelhhaaGreatDoorJD
import Derived.Test.YtalpbphfmelhhaaGreatDoorDK
/-! ### What was seen of keys: weighed, copied, compared; writes compared; texts in lists. -/
namespace Go.Proofs.YtalpbphfmelhhaaGreatDoor
open Go.RowKit Go.Maps Go.Sort
set_option maxRecDepth 100000
attribute [local go_sem] bs_size bs_get bs_toList frombits tobits run_store_float
def fewI (n more most : Int) : Int := if more > most ∨ n > most then wrap64 (most + 1) else wrap64 (n + more)
set_option maxHeartbeats 1000000 in
theorem fewI_any (n more most : Int) (w : World) : Calls Tryz.prog 71 #[.int .i64 n, .int .i64 more, .int .i64 most] w fun e w' => e = .returned (.int .i64 (fewI n more most)) ∧ w' = w := by
  by_cases h1 : most < more
  · have hr : fewI n more most = wrap64 (most + 1) := by unfold fewI; rw [if_pos (.inl h1)]
    have d1 : decide (most < more) = true := decide_eq_true h1
    rw [hr]
    clear hr
    go_enter Tryz.func71, Tryz.ntmps71
    go_wp2_with fail
    go_ret
    exact ⟨rfl, rfl⟩
  · have d1 : decide (most < more) = false := decide_eq_false h1
    by_cases h2 : most < n
    · have hr : fewI n more most = wrap64 (most + 1) := by unfold fewI; rw [if_pos (.inr h2)]
      have d2 : decide (most < n) = true := decide_eq_true h2
      rw [hr]
      clear hr
      go_enter Tryz.func71, Tryz.ntmps71
      go_wp2_with fail
      go_ret
      exact ⟨rfl, rfl⟩
    · have hr : fewI n more most = wrap64 (n + more) := by unfold fewI; rw [if_neg (fun h => h.elim h1 h2)]
      have d2 : decide (most < n) = false := decide_eq_false h2
      rw [hr]
      clear hr
      go_enter Tryz.func71, Tryz.ntmps71
      go_wp2_with fail
      go_ret
      exact ⟨rfl, rfl⟩
set_option maxHeartbeats 4000000 in
theorem weighS_any (a : Option Addr) (n cap : Nat) (l : List SnP) (w : World) (h : RdS w a n cap l) : Calls Tryz.prog 42 #[.slice a n cap, .int .i64 20000] w fun e w' => ∃ x : Int, e = .returned (.int .i64 x) ∧ Below w.heap.size w w' := by
  have H0 := Lib.hid h
  have hm : n ≤ 9223372036854775807 := h.rd.len
  have HN := Lib.hid h.rd.1
  have HF : Hid (∀ n more W, Calls Tryz.prog 71 #[.int .i64 n, .int .i64 more, .int .i64 20000] W fun e w' => e = .returned (.int .i64 (fewI n more 20000)) ∧ w' = W) := fun n more W => fewI_any n more 20000 W
  clear h
  go_enter Tryz.func42, Tryz.ntmps42
  go_wp2_with fail
  go_loopw [5, 6] (fun x i WZ => ∃ (k : Nat) (y : Int), k ≤ n ∧ i = .int .i64 (k : Nat) ∧ x = .int .i64 y ∧ Hid (Below w.heap.size w WZ)) (fun _ i _ => n - (intOf i).toNat)
  case atStart => exact ⟨0, 0, Nat.zero_le _, rfl, rfl, Below.refl _ _⟩
  case round =>
    obtain ⟨k, y, hk, rfl, rfl, HB⟩ := hrel
    by_cases hlt : k < n
    · by_cases hy : y ≤ 20000
      · have dy : decide (y ≤ 20000) = true := decide_eq_true hy
        obtain ⟨s, hs⟩ : ∃ s, l[k]? = some s := ⟨_, List.getElem?_eq_getElem (by have := HN.out; omega)⟩
        obtain ⟨b, off, rfl, c0, _, _, c3, _, _, _⟩ := (H0.out.below HB.out).rd.at7 hs
        clear hs hy
        go_wp2_with fail
        go_quiet ((go_at_call 71; exact Calls.quiet_of_same (HF.out _ _ _)))
        go_wp2_with fail
        go_roundw
        case rel => exact ⟨k + 1, _, by omega, by go_num, rfl, HB.out.trans ⟨rfl, rfl, rfl, Nat.le_refl _, fun _ _ => rfl⟩⟩
        case measure => simp [intOf]; omega
      · have dy : decide (y ≤ 20000) = false := decide_eq_false hy
        clear hy
        go_wp2_with fail
        go_ret
        exact ⟨_, rfl, HB.out⟩
    · obtain rfl : k = n := by omega
      go_wp2_with fail
      go_ret
      exact ⟨_, rfl, HB.out⟩
def FewSPost (w : World) (n : Nat) (e : Ending) (w' : World) : Prop := ∃ b : Bool, e = .returned (.bool b) ∧ (b = true → n ≤ 200) ∧ Below w.heap.size w w'
set_option maxHeartbeats 1000000 in
theorem fewSeen_any (a : Option Addr) (n cap : Nat) (l : List SnP) (w : World) (h : RdS w a n cap l) : Calls Tryz.prog 22 #[.slice a n cap] w (FewSPost w n) := by
  have HW := Lib.hid (weighS_any a n cap l w h)
  clear h
  by_cases hn : n ≤ 200
  · have d1 : decide ((n : Int) ≤ 200) = true := decide_eq_true (by omega)
    have HN := Lib.hid hn
    go_enter Tryz.func22, Tryz.ntmps22
    go_wp2_with fail
    go_at_call 42
    refine (HW.out).mono ?_
    rintro e w1 ⟨x, rfl, hb⟩
    cases hx : decide (x ≤ 20000) with
    | true =>
      go_wp2_with fail
      go_ret
      exact ⟨_, rfl, fun _ => HN.out, hb⟩
    | false =>
      go_wp2_with fail
      go_ret
      exact ⟨_, rfl, fun _ => HN.out, hb⟩
  · have d1 : decide ((n : Int) ≤ 200) = false := decide_eq_false (by omega)
    clear hn
    go_enter Tryz.func22, Tryz.ntmps22
    go_wp2_with fail
    go_ret
    exact ⟨_, rfl, (fun h => by cases h), Below.refl _ _⟩
/-! ### copies -/
theorem SSn : STy Tryz.prog 32 52 (.agg #[.string ⟨#[]⟩, .int .i64 0, .float .f64 0, .string ⟨#[]⟩, .int .i64 0, .int .i64 0, .int .i64 0]) 7 72 := ⟨Tryz.underlying32, info_parts (by kernel_rfl), by decide, by decide⟩
def OwnS (w : World) (base : Nat) (v : Value) (l : List SnP) : Prop := w.ownsRow base 52 7 v l.length (flatE snCells l)
theorem OwnS.nil (w : World) (base : Nat) : OwnS w base (.slice none 0 0) [] := World.ownsRow_nil _ _ _ _
theorem OwnS.rd {w : World} {base : Nat} {v : Value} {l : List SnP} (h : OwnS w base v l) : ∃ a cap, v = .slice a l.length cap ∧ RdE snCells 7 w a l.length cap l := by
  obtain ⟨a, cap, hv, hr⟩ := Rd.of_own h
  exact ⟨a, cap, hv, rfl, hr⟩
theorem snCells_one (s : SnP) : ∀ u ∈ snCells s, u.oneCell' = true := by simp [snCells, Value.oneCell']
theorem own_snocS {W : World} {B : Nat} {v : Value} {l : List SnP} {n : Nat} (s : SnP) (hn : n = l.length) (h : World.ownsRow W B 52 7 v (n + 1) (flatE snCells l ++ snCells s)) : OwnS W B v (l ++ [s]) := by
  show World.ownsRow _ _ _ _ _ _ _
  rw [List.length_append, flatE_snoc, ← hn]
  exact h
set_option maxHeartbeats 2000000 in
theorem copySeen_any (a : Option Addr) (n cap : Nat) (l : List SnP) (w : World) (h : RdS w a n cap l) (hn : n ≤ 1000) : Calls Tryz.prog 23 #[.slice a n cap] w fun e w' => ∃ v, e = .returned v ∧ OwnS w' w.heap.size v l ∧ Below w.heap.size w w' := by
  have H0 := Lib.hid h
  have HN := Lib.hid h.rd.1
  clear h
  go_enter Tryz.func23, Tryz.ntmps23
  go_wp2_with fail
  go_loopw [3, 4] (fun v i WZ => ∃ k : Nat, k ≤ n ∧ i = .int .i64 (k : Nat) ∧ Hid (OwnS WZ w.heap.size v (l.take k)) ∧ Hid (Below w.heap.size w WZ)) (fun _ i _ => n - (intOf i).toNat)
  case atStart => exact ⟨0, Nat.zero_le _, rfl, OwnS.nil _ _, Below.refl _ _⟩
  case round =>
    obtain ⟨k, hk, rfl, HO, HB⟩ := hrel
    obtain ⟨av, cv, rfl, _⟩ := OwnS.rd HO.out
    have htl : (l.take k).length = k := by rw [List.length_take]; have := HN.out; omega
    rw [htl]
    by_cases hlt : k < n
    · obtain ⟨s, hs⟩ : ∃ s, l[k]? = some s := ⟨_, List.getElem?_eq_getElem (by have := HN.out; omega)⟩
      obtain ⟨b, off, rfl, c0, c1, c2, c3, c4, c5, c6⟩ := (H0.out.below HB.out).rd.at7 hs
      have HO1 : Hid ((wr.alloc (.cells #[.string (bs s.key), .int .i64 s.v.k, .float .f64 (fb s.v.x), .string (bs s.v.s), .int .i64 s.w, .int .i64 s.l, .int .i64 s.n] 52)).ownsRow w.heap.size 52 7 (.slice av k cv) k (flatE snCells (l.take k))) := by
        have := World.ownsRow.alloc HO.out (.cells #[.string (bs s.key), .int .i64 s.v.k, .float .f64 (fb s.v.x), .string (bs s.v.s), .int .i64 s.w, .int .i64 s.l, .int .i64 s.n] 52)
        rw [htl] at this
        exact this
      have HLN : Hid (Rd (wr.alloc (.cells #[.string (bs s.key), .int .i64 s.v.k, .float .f64 (fb s.v.x), .string (bs s.v.s), .int .i64 s.w, .int .i64 s.l, .int .i64 s.n] 52)) (some ⟨wr.heap.size, 0, none⟩) 1 1 7 (snCells s)) := Rd.lone wr #[.string (bs s.key), .int .i64 s.v.k, .float .f64 (fb s.v.x), .string (bs s.v.s), .int .i64 s.w, .int .i64 s.l, .int .i64 s.n] 7 rfl 52
      have HF := Lib.hid hs
      have HTL := Lib.hid htl
      clear hs htl
      go_wp2_with (at_builtin; refine wpList_app SSn rfl (.tmp 11) (.tmp 16) rfl w.heap.size rfl HO1.out rfl HLN.out (snCells_one s) (by omega) (by unfold maxLen; omega) (by have := HB.out.size; simp; omega) ?_)
      intro v5 w5 hown5 hb5 _
      have HO5 : Hid (OwnS w5 w.heap.size v5 (l.take (k + 1))) := by
        have e : l.take (k + 1) = l.take k ++ [s] := by rw [List.take_add_one, HF.out]; rfl
        show OwnS _ _ _ _
        rw [e]
        exact own_snocS s HTL.out.symm hown5
      have HB5 := Lib.hid ((HB.out.alloc HB.out.size _).trans hb5)
      clear hown5 hb5 c0 c1 c2 c3 c4 c5 c6
      go_wp2_with fail
      go_roundw
      case rel => exact ⟨k + 1, by omega, by go_num, HO5.out, HB5.out⟩
      case measure => simp [intOf]; omega
    · obtain rfl : k = n := by omega
      have HG : Hid (OwnS wr w.heap.size (.slice av k cv) l) := by
        have h := HO.out
        have ht : l.take k = l := List.take_of_length_le (by rw [HN.out]; exact Nat.le_refl _)
        rw [ht] at h htl
        rw [htl] at h
        exact h
      clear htl
      go_wp2_with fail
      go_ret
      exact ⟨_, rfl, HG.out, HB.out⟩
/-! ### comparisons -/
abbrev snV (s : SnP) : Value := .agg #[.string (bs s.key), .int .i64 s.v.k, .float .f64 (fb s.v.x), .string (bs s.v.s), .int .i64 s.w, .int .i64 s.l, .int .i64 s.n]
set_option maxHeartbeats 2000000 in
theorem one_same (s : SnP) (w : World) : Calls Tryz.prog 52 #[snV s, snV s] w fun e w' => e = .returned (.bool true) ∧ Below w.heap.size w w' := by
  have hvl := value_self s.v.k s.v.x s.v.s
  unfold VA at hvl
  have HVL := Lib.hid hvl
  have HB0 : Hid (Below w.heap.size w ((w.alloc (.cells #[.string (bs s.key), .int .i64 s.v.k, .float .f64 (fb s.v.x), .string (bs s.v.s), .int .i64 s.w, .int .i64 s.l, .int .i64 s.n] 52)).alloc (.cells #[.string (bs s.key), .int .i64 s.v.k, .float .f64 (fb s.v.x), .string (bs s.v.s), .int .i64 s.w, .int .i64 s.l, .int .i64 s.n] 52))) := ((Below.refl _ w).alloc (Nat.le_refl _) _).alloc (by simp) _
  clear hvl
  go_enter Tryz.func52, Tryz.ntmps52
  go_wp2_with (go_at_call 34; refine (HVL.out _).mono ?_; rintro e w2 ⟨rfl, hb2⟩; have HB2 := Lib.hid (HB0.out.trans (hb2.mono HB0.out.size)); clear hb2)
  go_ret
  exact ⟨rfl, HB2.out⟩
set_option maxHeartbeats 4000000 in
theorem seen_same (a a' : Option Addr) (n cap cap' : Nat) (l : List SnP) (w : World) (h : RdE snCells 7 w a n cap l) (h' : RdE snCells 7 w a' n cap' l) (hn : n ≤ 1000) :
    Calls Tryz.prog 27 #[.slice a n cap, .slice a' n cap'] w fun e w' => e = .returned (.bool true) ∧ Below w.heap.size w w' := by
  have H1 := Lib.hid h
  have H2 := Lib.hid h'
  have E1 := Lib.hid h.1
  clear h h'
  go_enter Tryz.func27, Tryz.ntmps27
  go_wp2_with fail
  go_loopw [5] (fun i WZ => ∃ k : Nat, k ≤ n ∧ i = .int .i64 k ∧ Hid (Below w.heap.size w WZ)) (fun i _ => n - (intOf i).toNat)
  case atStart => exact ⟨0, Nat.zero_le _, rfl, Below.refl _ _⟩
  case round =>
    obtain ⟨k, hk, rfl, HB⟩ := hrel
    by_cases hlt : k < n
    · obtain ⟨s, hs⟩ : ∃ s, l[k]? = some s := ⟨_, List.getElem?_eq_getElem (by have := E1.out; omega)⟩
      obtain ⟨b, off, rfl, c0, c1, c2, c3, c4, c5, c6⟩ := (H1.out.below HB.out).at7 hs
      obtain ⟨b', off', rfl, d0, d1, d2, d3, d4, d5, d6⟩ := (H2.out.below HB.out).at7 hs
      have HON : Hid (∀ W, Calls Tryz.prog 52 #[.agg #[.string (bs s.key), .int .i64 s.v.k, .float .f64 (fb s.v.x), .string (bs s.v.s), .int .i64 s.w, .int .i64 s.l, .int .i64 s.n], .agg #[.string (bs s.key), .int .i64 s.v.k, .float .f64 (fb s.v.x), .string (bs s.v.s), .int .i64 s.w, .int .i64 s.l, .int .i64 s.n]] W fun e w' => e = .returned (.bool true) ∧ Below W.heap.size W w') := fun W => one_same s W
      clear hs
      go_wp2_with fail
      refine wp_region_ht 8 (fun W => W.cell? ⟨b, off + k * 7, none⟩ = some (.string (bs s.key)) ∧ W.cell? ⟨b, off + k * 7 + 1, none⟩ = some (.int .i64 s.v.k) ∧ W.cell? ⟨b, off + k * 7 + 2, none⟩ = some (.float .f64 (fb s.v.x)) ∧ W.cell? ⟨b, off + k * 7 + 3, none⟩ = some (.string (bs s.v.s)) ∧ W.cell? ⟨b, off + k * 7 + 4, none⟩ = some (.int .i64 s.w) ∧ W.cell? ⟨b, off + k * 7 + 5, none⟩ = some (.int .i64 s.l) ∧ W.cell? ⟨b, off + k * 7 + 6, none⟩ = some (.int .i64 s.n) ∧ W.cell? ⟨b', off' + k * 7, none⟩ = some (.string (bs s.key)) ∧ W.cell? ⟨b', off' + k * 7 + 1, none⟩ = some (.int .i64 s.v.k) ∧ W.cell? ⟨b', off' + k * 7 + 2, none⟩ = some (.float .f64 (fb s.v.x)) ∧ W.cell? ⟨b', off' + k * 7 + 3, none⟩ = some (.string (bs s.v.s)) ∧ W.cell? ⟨b', off' + k * 7 + 4, none⟩ = some (.int .i64 s.w) ∧ W.cell? ⟨b', off' + k * 7 + 5, none⟩ = some (.int .i64 s.l) ∧ W.cell? ⟨b', off' + k * 7 + 6, none⟩ = some (.int .i64 s.n)) (by kernel_rfl) (by kernel_rfl) ?_ (fun hHeld => ?_)
      · exact ⟨c0, c1, c2, c3, c4, c5, c6, d0, d1, d2, d3, d4, d5, d6⟩
      try simp only [Act.put, List.setIfInBounds_toArray, List.set_cons_zero, List.set_cons_succ]
      refine wpHT_takeD (i := 0) (d := 17) (v := ?_) (by kernel_rfl) rfl rfl (by decide) (by kernel_rfl) (by kernel_rfl) (fun _ _ _ h => h) (Or.inl ⟨by kernel_rfl, ?_⟩) (by assumption) ?_
      rotate_left
      · intro w hSw; (try dsimp only at hSw); go_simp; (try with_reducible rfl)
      try simp only [Act.put, List.setIfInBounds_toArray, List.set_cons_zero, List.set_cons_succ]
      refine wpHT_takeD (i := 1) (d := 18) (v := ?_) (by kernel_rfl) rfl rfl (by decide) (by kernel_rfl) (by kernel_rfl) (fun _ _ _ h => h) (Or.inl ⟨by kernel_rfl, ?_⟩) (by assumption) ?_
      rotate_left
      · intro w hSw; (try dsimp only at hSw); go_simp; (try with_reducible rfl)
      try simp only [Act.put, List.setIfInBounds_toArray, List.set_cons_zero, List.set_cons_succ]
      refine wpHT_takeD (i := 2) (d := 19) (v := ?_) (by kernel_rfl) rfl rfl (by decide) (by kernel_rfl) (by kernel_rfl) (fun _ _ _ h => h) (Or.inl ⟨by kernel_rfl, ?_⟩) (by assumption) ?_
      rotate_left
      · intro w hSw; (try dsimp only at hSw); go_simp; (try with_reducible rfl)
      try simp only [Act.put, List.setIfInBounds_toArray, List.set_cons_zero, List.set_cons_succ]
      refine wpHT_takeD (i := 3) (d := 20) (v := ?_) (by kernel_rfl) rfl rfl (by decide) (by kernel_rfl) (by kernel_rfl) (fun _ _ _ h => h) (Or.inl ⟨by kernel_rfl, ?_⟩) (by assumption) ?_
      rotate_left
      · intro w hSw; (try dsimp only at hSw); go_simp; (try with_reducible rfl)
      try simp only [Act.put, List.setIfInBounds_toArray, List.set_cons_zero, List.set_cons_succ]
      refine wpHT_takeD (i := 4) (d := 21) (v := ?_) (by kernel_rfl) rfl rfl (by decide) (by kernel_rfl) (by kernel_rfl) (fun _ _ _ h => h) (Or.inl ⟨by kernel_rfl, ?_⟩) (by assumption) ?_
      rotate_left
      · intro w hSw; (try dsimp only at hSw); go_simp; (try with_reducible rfl)
      try simp only [Act.put, List.setIfInBounds_toArray, List.set_cons_zero, List.set_cons_succ]
      refine wpHT_takeD (i := 5) (d := 22) (v := ?_) (by kernel_rfl) rfl rfl (by decide) (by kernel_rfl) (by kernel_rfl) (fun _ _ _ h => h) (Or.inl ⟨by kernel_rfl, ?_⟩) (by assumption) ?_
      rotate_left
      · intro w hSw; (try dsimp only at hSw); go_simp; (try with_reducible rfl)
      try simp only [Act.put, List.setIfInBounds_toArray, List.set_cons_zero, List.set_cons_succ]
      refine wpHT_takeD (i := 6) (d := 23) (v := ?_) (by kernel_rfl) rfl rfl (by decide) (by kernel_rfl) (by kernel_rfl) (fun _ _ _ h => h) (Or.inl ⟨by kernel_rfl, ?_⟩) (by assumption) ?_
      rotate_left
      · intro w hSw; (try dsimp only at hSw); go_simp; (try with_reducible rfl)
      try simp only [Act.put, List.setIfInBounds_toArray, List.set_cons_zero, List.set_cons_succ]
      refine wpHT_takeD (i := 7) (d := 24) (v := ?_) (by kernel_rfl) rfl rfl (by decide) (by kernel_rfl) (by kernel_rfl) (fun _ _ _ h => h) (Or.inl ⟨by kernel_rfl, ?_⟩) (by assumption) ?_
      rotate_left
      · intro w hSw; (try dsimp only at hSw); go_simp; (try with_reducible rfl)
      try simp only [Act.put, List.setIfInBounds_toArray, List.set_cons_zero, List.set_cons_succ]
      refine wpHT_done (by kernel_rfl) ?_
      simp only [List.drop_succ_cons, List.drop_zero]
      clear hHeld c0 c1 c2 c3 c4 c5 c6 d0 d1 d2 d3 d4 d5 d6
      go_wp2_with (go_at_call 52; refine (HON.out _).mono ?_; rintro e w2 ⟨rfl, hb2⟩; have HB2 := Lib.hid (next_below' HB.out ((Below.refl _ wr).drew.trans hb2)); clear hb2)
      go_roundw
      case rel => exact ⟨k + 1, by omega, by go_num, HB2.out⟩
      case measure => simp [intOf]; omega
    · obtain rfl : k = n := by omega
      go_wp2_with fail
      go_ret
      exact ⟨rfl, HB.out⟩
set_option maxHeartbeats 4000000 in
theorem writes_same (a a' : Option Addr) (n cap cap' : Nat) (l : List (List UInt8 × Vl)) (w : World) (h : RdE wrCells 4 w a n cap l) (h' : RdE wrCells 4 w a' n cap' l) (hn : n ≤ 1000) :
    Calls Tryz.prog 26 #[.slice a n cap, .slice a' n cap'] w fun e w' => e = .returned (.bool true) ∧ Below w.heap.size w w' := by
  have H1 := Lib.hid h
  have H2 := Lib.hid h'
  have E1 := Lib.hid h.1
  clear h h'
  go_enter Tryz.func26, Tryz.ntmps26
  go_wp2_with fail
  go_loopw [5] (fun i WZ => ∃ k : Nat, k ≤ n ∧ i = .int .i64 k ∧ Hid (Below w.heap.size w WZ)) (fun i _ => n - (intOf i).toNat)
  case atStart => exact ⟨0, Nat.zero_le _, rfl, Below.refl _ _⟩
  case round =>
    obtain ⟨k, hk, rfl, HB⟩ := hrel
    by_cases hlt : k < n
    · obtain ⟨q, hq⟩ : ∃ q, l[k]? = some q := ⟨_, List.getElem?_eq_getElem (by have := E1.out; omega)⟩
      obtain ⟨b, off, rfl, c0, c1, c2, c3⟩ := (H1.out.below HB.out).at4 hq
      obtain ⟨b', off', rfl, d0, d1, d2, d3⟩ := (H2.out.below HB.out).at4 hq
      have hvl := value_self q.2.k q.2.x q.2.s
      unfold VA at hvl
      have HVL := Lib.hid hvl
      clear hq hvl
      go_wp2_with fail
      refine wp_region_ht 22 (fun W => W.cell? ⟨b, off + k * 4, none⟩ = some (.string (bs q.1)) ∧ W.cell? ⟨b, off + k * 4 + 1, none⟩ = some (.int .i64 q.2.k) ∧ W.cell? ⟨b, off + k * 4 + 2, none⟩ = some (.float .f64 (fb q.2.x)) ∧ W.cell? ⟨b, off + k * 4 + 3, none⟩ = some (.string (bs q.2.s)) ∧ W.cell? ⟨b', off' + k * 4, none⟩ = some (.string (bs q.1)) ∧ W.cell? ⟨b', off' + k * 4 + 1, none⟩ = some (.int .i64 q.2.k) ∧ W.cell? ⟨b', off' + k * 4 + 2, none⟩ = some (.float .f64 (fb q.2.x)) ∧ W.cell? ⟨b', off' + k * 4 + 3, none⟩ = some (.string (bs q.2.s))) (by kernel_rfl) (by kernel_rfl) ?_ (fun hHeld => ?_)
      · exact ⟨c0, c1, c2, c3, d0, d1, d2, d3⟩
      try simp only [Act.put, List.setIfInBounds_toArray, List.set_cons_zero, List.set_cons_succ]
      refine wpHT_takeD (i := 0) (d := 17) (v := ?_) (by kernel_rfl) rfl rfl (by decide) (by kernel_rfl) (by kernel_rfl) (fun _ _ _ h => h) (Or.inl ⟨by kernel_rfl, ?_⟩) (by assumption) ?_
      rotate_left
      · intro w hSw; (try dsimp only at hSw); go_simp; (try with_reducible rfl)
      try simp only [Act.put, List.setIfInBounds_toArray, List.set_cons_zero, List.set_cons_succ]
      refine wpHT_takeD (i := 1) (d := 18) (v := ?_) (by kernel_rfl) rfl rfl (by decide) (by kernel_rfl) (by kernel_rfl) (fun _ _ _ h => h) (Or.inl ⟨by kernel_rfl, ?_⟩) (by assumption) ?_
      rotate_left
      · intro w hSw; (try dsimp only at hSw); go_simp; (try with_reducible rfl)
      try simp only [Act.put, List.setIfInBounds_toArray, List.set_cons_zero, List.set_cons_succ]
      refine wpHT_takeD (i := 2) (d := 19) (v := ?_) (by kernel_rfl) rfl rfl (by decide) (by kernel_rfl) (by kernel_rfl) (fun _ _ _ h => h) (Or.inl ⟨by kernel_rfl, ?_⟩) (by assumption) ?_
      rotate_left
      · intro w hSw; (try dsimp only at hSw); go_simp; (try with_reducible rfl)
      try simp only [Act.put, List.setIfInBounds_toArray, List.set_cons_zero, List.set_cons_succ]
      refine wpHT_takeD (i := 3) (d := 20) (v := ?_) (by kernel_rfl) rfl rfl (by decide) (by kernel_rfl) (by kernel_rfl) (fun _ _ _ h => h) (Or.inl ⟨by kernel_rfl, ?_⟩) (by assumption) ?_
      rotate_left
      · intro w hSw; (try dsimp only at hSw); go_simp; (try with_reducible rfl)
      try simp only [Act.put, List.setIfInBounds_toArray, List.set_cons_zero, List.set_cons_succ]
      refine wpHT_takeD (i := 4) (d := 21) (v := ?_) (by kernel_rfl) rfl rfl (by decide) (by kernel_rfl) (by kernel_rfl) (fun _ _ _ h => h) (Or.inl ⟨by kernel_rfl, ?_⟩) (by assumption) ?_
      rotate_left
      · intro w hSw; (try dsimp only at hSw); go_simp; (try with_reducible rfl)
      try simp only [Act.put, List.setIfInBounds_toArray, List.set_cons_zero, List.set_cons_succ]
      refine wpHT_takeD (i := 5) (d := 22) (v := ?_) (by kernel_rfl) rfl rfl (by decide) (by kernel_rfl) (by kernel_rfl) (fun _ _ _ h => h) (Or.inl ⟨by kernel_rfl, ?_⟩) (by assumption) ?_
      rotate_left
      · intro w hSw; (try dsimp only at hSw); go_simp; (try with_reducible rfl)
      try simp only [Act.put, List.setIfInBounds_toArray, List.set_cons_zero, List.set_cons_succ]
      refine wpHT_takeD (i := 6) (d := 23) (v := ?_) (by kernel_rfl) rfl rfl (by decide) (by kernel_rfl) (by kernel_rfl) (fun _ _ _ h => h) (Or.inl ⟨by kernel_rfl, ?_⟩) (by assumption) ?_
      rotate_left
      · intro w hSw; (try dsimp only at hSw); go_simp; (try with_reducible rfl)
      try simp only [Act.put, List.setIfInBounds_toArray, List.set_cons_zero, List.set_cons_succ]
      refine wpHT_takeD (i := 7) (d := 24) (v := ?_) (by kernel_rfl) rfl rfl (by decide) (by kernel_rfl) (by kernel_rfl) (fun _ _ _ h => h) (Or.inl ⟨by kernel_rfl, ?_⟩) (by assumption) ?_
      rotate_left
      · intro w hSw; (try dsimp only at hSw); go_simp; (try with_reducible rfl)
      try simp only [Act.put, List.setIfInBounds_toArray, List.set_cons_zero, List.set_cons_succ]
      refine wpHT_takeD (i := 8) (d := 25) (v := ?_) (by kernel_rfl) rfl rfl (by decide) (by kernel_rfl) (by kernel_rfl) (fun _ _ _ h => h) (Or.inl ⟨by kernel_rfl, ?_⟩) (by assumption) ?_
      rotate_left
      · intro w hSw; (try dsimp only at hSw); go_simp; (try with_reducible rfl)
      try simp only [Act.put, List.setIfInBounds_toArray, List.set_cons_zero, List.set_cons_succ]
      refine wpHT_takeD (i := 9) (d := 26) (v := ?_) (by kernel_rfl) rfl rfl (by decide) (by kernel_rfl) (by kernel_rfl) (fun _ _ _ h => h) (Or.inl ⟨by kernel_rfl, ?_⟩) (by assumption) ?_
      rotate_left
      · intro w hSw; (try dsimp only at hSw); go_simp; (try with_reducible rfl)
      try simp only [Act.put, List.setIfInBounds_toArray, List.set_cons_zero, List.set_cons_succ]
      refine wpHT_takeD (i := 10) (d := 27) (v := ?_) (by kernel_rfl) rfl rfl (by decide) (by kernel_rfl) (by kernel_rfl) (fun _ _ _ h => h) (Or.inl ⟨by kernel_rfl, ?_⟩) (by assumption) ?_
      rotate_left
      · intro w hSw; (try dsimp only at hSw); go_simp; (try with_reducible rfl)
      try simp only [Act.put, List.setIfInBounds_toArray, List.set_cons_zero, List.set_cons_succ]
      refine wpHT_takeD (i := 11) (d := 28) (v := ?_) (by kernel_rfl) rfl rfl (by decide) (by kernel_rfl) (by kernel_rfl) (fun _ _ _ h => h) (Or.inl ⟨by kernel_rfl, ?_⟩) (by assumption) ?_
      rotate_left
      · intro w hSw; (try dsimp only at hSw); go_simp; (try with_reducible rfl)
      try simp only [Act.put, List.setIfInBounds_toArray, List.set_cons_zero, List.set_cons_succ]
      refine wpHT_takeD (i := 12) (d := 29) (v := ?_) (by kernel_rfl) rfl rfl (by decide) (by kernel_rfl) (by kernel_rfl) (fun _ _ _ h => h) (Or.inl ⟨by kernel_rfl, ?_⟩) (by assumption) ?_
      rotate_left
      · intro w hSw; (try dsimp only at hSw); go_simp; (try with_reducible rfl)
      try simp only [Act.put, List.setIfInBounds_toArray, List.set_cons_zero, List.set_cons_succ]
      refine wpHT_takeD (i := 13) (d := 30) (v := ?_) (by kernel_rfl) rfl rfl (by decide) (by kernel_rfl) (by kernel_rfl) (fun _ _ _ h => h) (Or.inl ⟨by kernel_rfl, ?_⟩) (by assumption) ?_
      rotate_left
      · intro w hSw; (try dsimp only at hSw); go_simp; (try with_reducible rfl)
      try simp only [Act.put, List.setIfInBounds_toArray, List.set_cons_zero, List.set_cons_succ]
      refine wpHT_takeD (i := 14) (d := 31) (v := ?_) (by kernel_rfl) rfl rfl (by decide) (by kernel_rfl) (by kernel_rfl) (fun _ _ _ h => h) (Or.inl ⟨by kernel_rfl, ?_⟩) (by assumption) ?_
      rotate_left
      · intro w hSw; (try dsimp only at hSw); go_simp; (try with_reducible rfl)
      try simp only [Act.put, List.setIfInBounds_toArray, List.set_cons_zero, List.set_cons_succ]
      refine wpHT_takeD (i := 15) (d := 32) (v := ?_) (by kernel_rfl) rfl rfl (by decide) (by kernel_rfl) (by kernel_rfl) (fun _ _ _ h => h) (Or.inl ⟨by kernel_rfl, ?_⟩) (by assumption) ?_
      rotate_left
      · intro w hSw; (try dsimp only at hSw); go_simp; (try with_reducible rfl)
      try simp only [Act.put, List.setIfInBounds_toArray, List.set_cons_zero, List.set_cons_succ]
      refine wpHT_takeD (i := 16) (d := 33) (v := ?_) (by kernel_rfl) rfl rfl (by decide) (by kernel_rfl) (by kernel_rfl) (fun _ _ _ h => h) (Or.inl ⟨by kernel_rfl, ?_⟩) (by assumption) ?_
      rotate_left
      · intro w hSw; (try dsimp only at hSw); go_simp; (try with_reducible rfl)
      try simp only [Act.put, List.setIfInBounds_toArray, List.set_cons_zero, List.set_cons_succ]
      refine wpHT_takeD (i := 17) (d := 34) (v := ?_) (by kernel_rfl) rfl rfl (by decide) (by kernel_rfl) (by kernel_rfl) (fun _ _ _ h => h) (Or.inl ⟨by kernel_rfl, ?_⟩) (by assumption) ?_
      rotate_left
      · intro w hSw; (try dsimp only at hSw); go_simp; (try with_reducible rfl)
      try simp only [Act.put, List.setIfInBounds_toArray, List.set_cons_zero, List.set_cons_succ]
      refine wpHT_takeD (i := 18) (d := 35) (v := ?_) (by kernel_rfl) rfl rfl (by decide) (by kernel_rfl) (by kernel_rfl) (fun _ _ _ h => h) (Or.inl ⟨by kernel_rfl, ?_⟩) (by assumption) ?_
      rotate_left
      · intro w hSw; (try dsimp only at hSw); go_simp; (try with_reducible rfl)
      try simp only [Act.put, List.setIfInBounds_toArray, List.set_cons_zero, List.set_cons_succ]
      refine wpHT_takeD (i := 19) (d := 36) (v := ?_) (by kernel_rfl) rfl rfl (by decide) (by kernel_rfl) (by kernel_rfl) (fun _ _ _ h => h) (Or.inl ⟨by kernel_rfl, ?_⟩) (by assumption) ?_
      rotate_left
      · intro w hSw; (try dsimp only at hSw); go_simp; (try with_reducible rfl)
      try simp only [Act.put, List.setIfInBounds_toArray, List.set_cons_zero, List.set_cons_succ]
      refine wpHT_takeD (i := 20) (d := 37) (v := ?_) (by kernel_rfl) rfl rfl (by decide) (by kernel_rfl) (by kernel_rfl) (fun _ _ _ h => h) (Or.inl ⟨by kernel_rfl, ?_⟩) (by assumption) ?_
      rotate_left
      · intro w hSw; (try dsimp only at hSw); go_simp; (try with_reducible rfl)
      try simp only [Act.put, List.setIfInBounds_toArray, List.set_cons_zero, List.set_cons_succ]
      refine wpHT_takeD (i := 21) (d := 38) (v := ?_) (by kernel_rfl) rfl rfl (by decide) (by kernel_rfl) (by kernel_rfl) (fun _ _ _ h => h) (Or.inl ⟨by kernel_rfl, ?_⟩) (by assumption) ?_
      rotate_left
      · intro w hSw; (try dsimp only at hSw); go_simp; (try with_reducible rfl)
      try simp only [Act.put, List.setIfInBounds_toArray, List.set_cons_zero, List.set_cons_succ]
      refine wpHT_done (by kernel_rfl) ?_
      simp only [List.drop_succ_cons, List.drop_zero]
      clear hHeld c0 c1 c2 c3 d0 d1 d2 d3
      go_wp2_with (go_at_call 34; refine (HVL.out _).mono ?_; rintro e w2 ⟨rfl, hb2⟩; have HB2 := Lib.hid (next_below' HB.out ((Below.refl _ wr).drew.trans hb2)); clear hb2)
      go_roundw
      case rel => exact ⟨k + 1, by omega, by go_num, HB2.out⟩
      case measure => simp [intOf]; omega
    · obtain rfl : k = n := by omega
      go_wp2_with fail
      go_ret
      exact ⟨rfl, HB.out⟩
end Go.Proofs.YtalpbphfmelhhaaGreatDoor

/-! ### What the chapter's examples fix (racelaw9.first). -/
namespace Go.Proofs.YtalpbphfmelhhaaGreatDoor
open Go.RowKit Go.Maps Go.Sort
set_option maxRecDepth 100000
attribute [local go_sem] bs_size bs_get bs_toList frombits tobits run_store_float
def exL : List UInt8 := [103, 101, 116, 32, 34, 97, 34, 32, 112, 117, 115, 104, 32, 49, 112, 48, 32, 97, 100, 100, 32, 112, 117, 116, 32, 34, 97, 34]
def exS : SnP := ⟨[97], ⟨1, 4611686018427387904, []⟩, 0, 0, 0⟩
theorem ex_chk : checkP exP = 0 := by decide +kernel
theorem ex_txt : printP exP = exL := by decide +kernel
theorem ex_one : printP (exP.take 1) = [103, 101, 116, 32, 34, 97, 34] := by decide +kernel
theorem ex_parse : parseP exL = (0, exP) := by rw [← ex_txt]; exact parse_printP ex_chk
theorem ex_run : runE exP [exS] = 0 := by decide +kernel
theorem ex_none : runE exP [] = 8 := by decide +kernel
theorem ex_wrote' : (runW exP [exS]).map (fun q => (q.1, q.2.k, q.2.x, q.2.s)) = [([97], 1, 4613937818241073152, [])] := by decide +kernel
theorem ex_wrote : runW exP [exS] = [([97], ⟨1, 4613937818241073152, []⟩)] := by
  have h := ex_wrote'
  generalize runW exP [exS] = l at h
  match l, h with
  | [], h => cases h
  | [⟨a, ⟨k, x, s⟩⟩], h =>
    simp at h
    obtain ⟨rfl, rfl, rfl, rfl⟩ := h
    rfl
  | _ :: _ :: _, h => simp at h
theorem RdE_take {α : Type} {enc : α → List Value} {m : Nat} (hm : ∀ x, (enc x).length = m) {w : World} {a : Option Addr} {n cap : Nat} {l : List α} (h : RdE enc m w a n cap l) (k : Nat) (hk : k ≤ n) (z : Value) {P : Program} {t e : TypeId} {bytes : Nat} (S : STy P t e z m bytes) :
    ∃ ad' cap', (∀ w', (Instr.slice t (.slice a n cap) none (some (.int .i64 (k : Int))) none).run P w' = .ok (.slice ad' k cap') w') ∧ RdE enc m w ad' k cap' (l.take k) := by
  obtain ⟨ad', cap', h1, h2⟩ := run_slice S h.2 none (some (.int .i64 (k : Int))) 0 k (.inl ⟨rfl, rfl⟩) (.inr rfl) (Nat.zero_le _) hk
  refine ⟨ad', cap', fun w' => h1 w', ?_, ?_⟩
  · rw [List.length_take, ← h.1]; omega
  · rw [Nat.zero_mul, List.drop_zero, Nat.sub_zero, flatE_take hm] at h2
    exact h2
set_option maxHeartbeats 4000000 in
theorem first9_any (w : World) (hT : Laid w) : Calls Tryz.prog 11 #[] w fun e w' => e = .returned (.bool true) ∧ Below w.heap.size w w' := by
  have HT := Lib.hid hT
  have HP : Hid (∀ W, Calls Tryz.prog 28 #[.string ⟨#[103, 101, 116, 32, 34, 97, 34, 32, 112, 117, 115, 104, 32, 49, 112, 48, 32, 97, 100, 100, 32, 112, 117, 116, 32, 34, 97, 34]⟩] W fun e w' => ∃ v, e = .returned (.tuple #[v, .int .i64 0]) ∧ OwnO5 w' W.heap.size v exP ∧ Below W.heap.size W w') := fun W => by
    have h := prgParse_any exL (by decide) W
    refine h.mono ?_
    rintro e w' ⟨v, he, ho, hb⟩
    rw [ex_parse] at he ho
    exact ⟨v, he, ho, hb⟩
  clear hT
  go_enter Tryz.func11, Tryz.ntmps11
  go_wp2_with fail
  go_at_call 28
  refine (HP.out _).mono ?_
  rintro e w1 ⟨v, rfl, ho, hb1⟩
  obtain ⟨ap, cp, rfl, hrp⟩ := OwnO5.rd ho
  have hlen : exP.length = 4 := rfl
  rw [hlen] at hrp ⊢
  have HOK : Hid (∀ o ∈ exP, OpOk o) := fun o ho => by
    simp only [exP, List.mem_cons, List.not_mem_nil, or_false] at ho
    rcases ho with rfl | rfl | rfl | rfl <;> exact ⟨by decide, by decide, by decide, by decide⟩
  have HRP : Hid (RdO w1 ap 4 cp exP) := ⟨hrp, HOK.out⟩
  have HB1 := Lib.hid hb1
  clear hlen ho hrp hb1
  have hsn : RdS (w1.alloc (.cells #[.string ⟨#[97]⟩, .int .i64 1, .float .f64 4611686018427387904, .string ⟨#[]⟩, .int .i64 0, .int .i64 0, .int .i64 0] 52)) (some ⟨w1.heap.size, 0, none⟩) 1 1 [exS] :=
    ⟨⟨rfl, Rd.lone w1 #[.string ⟨#[97]⟩, .int .i64 1, .float .f64 4611686018427387904, .string ⟨#[]⟩, .int .i64 0, .int .i64 0, .int .i64 0] 7 rfl 52⟩, fun s hs => by
      rw [List.mem_singleton] at hs
      rw [hs]
      exact ⟨by decide, by decide⟩⟩
  have HR1 := Lib.hid (run_any ap 4 cp exP _ 1 1 [exS] _ (HRP.out.below ((Below.refl _ _).alloc (Nat.le_refl _) _)) hsn (by decide))
  have HB2 : Hid (Below w.heap.size w (w1.alloc (.cells #[.string ⟨#[97]⟩, .int .i64 1, .float .f64 4611686018427387904, .string ⟨#[]⟩, .int .i64 0, .int .i64 0, .int .i64 0] 52))) := HB1.out.alloc HB1.out.size _
  have HBA : Hid (Below w1.heap.size w1 (w1.alloc (.cells #[.string ⟨#[97]⟩, .int .i64 1, .float .f64 4611686018427387904, .string ⟨#[]⟩, .int .i64 0, .int .i64 0, .int .i64 0] 52))) := (Below.refl _ _).alloc (Nat.le_refl _) _
  clear hsn
  go_wp2_with fail
  go_at_call 24
  refine (HR1.out).mono ?_
  rintro e w2 ⟨v2, rfl, ho2, hb2⟩
  rw [ex_run]
  rw [ex_wrote] at ho2
  obtain ⟨aw, cw, rfl, hrw⟩ := Rd.of_own ho2
  have hrE : RdE wrCells 4 w2 aw 1 cw [([97], ⟨1, 4613937818241073152, []⟩)] := ⟨rfl, hrw⟩
  have HRE := Lib.hid hrE
  have HB3 := Lib.hid (HB2.out.trans (hb2.mono HB2.out.size))
  have HBC := Lib.hid (HBA.out.trans (hb2.mono HBA.out.size))
  have hl1 : ([([97], (⟨1, 4613937818241073152, []⟩ : Vl))] : List (List UInt8 × Vl)).length = 1 := rfl
  rw [hl1]
  clear ho2 hrw hrE hb2 hl1
  have HR2 := Lib.hid (run_any ap 4 cp exP none 0 0 [] w2 (HRP.out.below HBC.out) ⟨⟨rfl, Rd.nil _ _⟩, fun s hs => by cases hs⟩ (by decide))
  go_wp2_with fail
  go_at_call 24
  refine (HR2.out).mono ?_
  rintro e w3 ⟨v3, rfl, _, hb3⟩
  rw [ex_none]
  have HB4 := Lib.hid (HB3.out.trans (hb3.mono HB3.out.size))
  have HBD := Lib.hid (HBC.out.trans (hb3.mono HBC.out.size))
  obtain ⟨b, off, rfl, c0, c1, c2, c3⟩ := (HRE.out.below hb3).at4 (i := 0) rfl
  simp only [Nat.zero_mul, Nat.add_zero] at c0 c1 c2 c3
  have hvs := value_self 1 4613937818241073152 []
  unfold VA at hvs
  have HVS : Hid (∀ W, Calls Tryz.prog 34 #[.agg #[.int .i64 1, .float .f64 4613937818241073152, .string ⟨#[]⟩], .agg #[.int .i64 1, .float .f64 4613937818241073152, .string ⟨#[]⟩]] W fun e w' => e = .returned (.bool true) ∧ Below W.heap.size W w') := fun W => hvs W
  obtain ⟨as1, cs1, hsl, hrt⟩ := RdE_take opCells5 (HRP.out.below HBD.out).rd 1 (by decide) _ SOp
  have HRT := Lib.hid hrt
  clear hvs hrt hb3
  have c0 : w3.cell? ⟨b, off, none⟩ = some (.string ⟨#[97]⟩) := c0
  have c1 : w3.cell? ⟨b, off + 1, none⟩ = some (.int .i64 1) := c1
  have c2 : w3.cell? ⟨b, off + 2, none⟩ = some (.float .f64 4613937818241073152) := c2
  have c3 : w3.cell? ⟨b, off + 3, none⟩ = some (.string ⟨#[]⟩) := c3
  have hsl : ∀ w', (Instr.slice 22 (.slice ap 4 cp) none (some (.int .i64 1)) none).run Tryz.prog w' = .ok (.slice as1 1 cs1) w' := hsl
  go_wp2_with (go_at_call 34; refine (HVS.out _).mono ?_; rintro e w4 ⟨rfl, hb4⟩; have HB5 := Lib.hid hb4; clear hb4)
  go_at_call 30
  refine (prgPrint_any as1 1 cs1 (exP.take 1) w4 ⟨HRT.out.below HB5.out, fun o ho => HOK.out o (List.mem_of_mem_take ho)⟩ (by decide) (HT.out.below (HB4.out.trans (HB5.out.mono HB4.out.size)))).mono ?_
  rintro e w5 ⟨rfl, hb5⟩
  rw [ex_one]
  have HB6 := Lib.hid ((HB4.out.trans (HB5.out.mono HB4.out.size)).trans (hb5.mono (HB4.out.trans (HB5.out.mono HB4.out.size)).size))
  clear hb5
  go_wp2_with fail
  go_ret
  exact ⟨rfl, HB6.out⟩
end Go.Proofs.YtalpbphfmelhhaaGreatDoor

/-! ### Programs, and what was seen, that came in (openers). -/
namespace Go.Proofs.YtalpbphfmelhhaaGreatDoor
open Go.ChangeShapes Go.WideShapes Go.ChangeAt Go.RowKit Go.Shelf
set_option maxRecDepth 100000
theorem choose_list9 {α : Type} {P : Nat → α → Prop} : ∀ (n : Nat), (∀ i, i < n → ∃ o, P i o) → ∃ os : List α, os.length = n ∧ ∀ i o, os[i]? = some o → P i o
  | 0, _ => ⟨[], rfl, fun i o h => by simp at h⟩
  | n + 1, h => by
    obtain ⟨os, h1, h2⟩ := choose_list9 n fun i hi => h i (by omega)
    obtain ⟨o, ho⟩ := h n (by omega)
    refine ⟨os ++ [o], by simp [h1], fun i x hx => ?_⟩
    rcases Nat.lt_or_ge i n with hi | hi
    · rw [List.getElem?_append_left (by omega)] at hx; exact h2 i x hx
    · have hlt := (List.getElem?_eq_some_iff.1 hx).1
      simp at hlt
      have : i = n := by omega
      subst this
      rw [List.getElem?_append_right (by omega)] at hx
      simp [h1] at hx
      subst hx; exact ho
theorem flat_of {α : Type} {enc : α → List Value} {m : Nat} (hm : ∀ x, (enc x).length = m) (h0 : 0 < m) {xs : List Value} {os : List α} (hl : xs.length = os.length * m) (h : ∀ i o, os[i]? = some o → ∀ j u, (enc o)[j]? = some u → xs[i * m + j]? = some u) : xs = flatE enc os := by
  apply List.ext_getElem?
  intro k
  rcases Nat.lt_or_ge k (os.length * m) with hk | hk
  · have hi : k / m < os.length := Nat.div_lt_of_lt_mul (by rw [Nat.mul_comm]; exact hk)
    have hj : k % m < m := Nat.mod_lt _ h0
    have ho : os[k / m]? = some os[k / m] := List.getElem?_eq_getElem hi
    have hu : (enc os[k / m])[k % m]? = some ((enc os[k / m])[k % m]'(by rw [hm]; exact hj)) := List.getElem?_eq_getElem _
    have e : k / m * m + k % m = k := by rw [Nat.mul_comm]; exact Nat.div_add_mod k m
    have h1 := h _ _ ho _ _ hu
    have h2 := flatE_get hm ho hu
    rw [e] at h1 h2
    rw [h1, h2]
  · rw [List.getElem?_eq_none (by omega), List.getElem?_eq_none (by rw [flatE_length hm]; exact hk)]
section
variable {H : Type} {enc : TypeId × Value → H} {w : World} {base : Nat} {sp : Nat → Bool} {held : Bool} {t : TypeId} {fuel : Nat} {a : Option Addr} {len cap : Nat} {cs : List Value} {x : DataW H × List MemPlace}
theorem field9 {P : Program} {fs : Array Field} (ht : P.underlying t = some (.struct fs)) (h : DataW.trod enc P w base sp held fuel t cs = some x) :
    cs.length = P.cellsOf t ∧ ∃ n, ∀ (i : Nat) (f : Field), fs[i]? = some f → ∃ y, DataW.trod enc P w base sp held n f.type ((cs.drop f.offset).take (P.cellsOf f.type)) = some y := by
  obtain ⟨xs, n, _, _, hl, hlen, hf⟩ := DataW.trod_struct ht h
  refine ⟨hl, n, fun i f hi => ?_⟩
  rw [hf i f hi]
  have := (Array.getElem?_eq_some_iff.1 hi).1
  exact ⟨_, List.getElem?_eq_getElem (by omega)⟩
theorem get9 {cs : List Value} {j : Nat} {v : Value} (h : (cs.drop j).take 1 = [v]) : cs[j]? = some v := by
  have := congrArg (·[0]?) h
  simpa [List.getElem?_take, List.getElem?_drop] using this
theorem str9 {P : Program} (ht : P.underlying t = some .string) (h : DataW.trod enc P w base sp held fuel t cs = some x) : ∃ l : List UInt8, cs = [.string (bs l)] ∧ l.length ≤ 9223372036854775807 := by
  obtain ⟨s, e2, _, hs⟩ := DataW.trod_string ht h
  refine ⟨s.data.toList, ?_, ?_⟩
  · rw [e2]; congr 2
  · rw [Array.length_toList]; exact hs
theorem int9 {P : Program} (ht : P.underlying t = some (.int .i64)) (h : DataW.trod enc P w base sp held fuel t cs = some x) : ∃ n : Int, cs = [.int .i64 n] ∧ -9223372036854775808 ≤ n ∧ n ≤ 9223372036854775807 := by
  obtain ⟨n, hn, _, hw⟩ := DataW.trod_int ht h
  refine ⟨n, hn, ?_⟩
  simp [Lit.wf, IntKind.min, IntKind.max, IntKind.signed, IntKind.bits] at hw; omega
theorem flt9 {P : Program} (ht : P.underlying t = some (.float .f64)) (h : DataW.trod enc P w base sp held fuel t cs = some x) : ∃ z : UInt64, cs = [.float .f64 (fb z)] := by
  obtain ⟨n, hn, hw⟩ := trod_float ht h
  obtain ⟨z, rfl⟩ := fb_of hw
  exact ⟨z, hn⟩
theorem vl9 (h : DataW.trod enc Tryz.prog w base sp held fuel 48 cs = some x) : ∃ v : Vl, cs[0]? = some (.int .i64 v.k) ∧ cs[1]? = some (.float .f64 (fb v.x)) ∧ cs[2]? = some (.string (bs v.s)) ∧ v.s.length ≤ 9223372036854775807 := by
  obtain ⟨_, n, hf⟩ := field9 Tryz.underlying48 h
  obtain ⟨y0, h0⟩ := hf 0 _ rfl
  obtain ⟨y1, h1⟩ := hf 1 _ rfl
  obtain ⟨y2, h2⟩ := hf 2 _ rfl
  obtain ⟨k, e0, _⟩ := int9 Tryz.underlying3 h0
  obtain ⟨z, e1⟩ := flt9 Tryz.underlying46 h1
  obtain ⟨s, e2, hs⟩ := str9 Tryz.underlying9 h2
  exact ⟨⟨k, z, s⟩, get9 e0, get9 e1, get9 e2, hs⟩
end
theorem rdOr_open {H : Type} {enc : TypeId × Value → H} {w : World} {base : Nat} {sp : Nat → Bool} {held : Bool} {fuel : Nat} {a : Option Addr} {len cap : Nat} {x : DataW H × List MemPlace}
    (h : DataW.trod enc Tryz.prog w base sp held fuel 22 (Value.slice a len cap).cells.toList = some x) : ∃ l, RdOr w a len cap l := by
  obtain ⟨xs, hr, m, hel⟩ := rd_open (size := 5) Tryz.underlying22 (by kernel_rfl) (by decide) h
  obtain ⟨os, h1, h2⟩ := choose_list9 (P := fun i (o : OpP) => (∀ (j : Nat) (u : Value), (opCells o)[j]? = some u → xs[i * 5 + j]? = some u) ∧ -9223372036854775808 ≤ o.c ∧ o.c ≤ 9223372036854775807 ∧ o.key.length ≤ 9223372036854775807 ∧ o.v.s.length ≤ 9223372036854775807) len fun i hi => by
    obtain ⟨y, hy⟩ := hel i hi
    obtain ⟨_, n, hf⟩ := field9 Tryz.underlying59 hy
    obtain ⟨y0, h0⟩ := hf 0 _ rfl
    obtain ⟨y1, h1⟩ := hf 1 _ rfl
    obtain ⟨y2, h2⟩ := hf 2 _ rfl
    obtain ⟨k, e0, hk⟩ := int9 Tryz.underlying3 h0
    obtain ⟨s, e1, hs⟩ := str9 Tryz.underlying9 h1
    obtain ⟨v, v0, v1, v2, hv⟩ := vl9 h2
    have c : ∀ {j : Nat} {v : Value}, j < 5 → (((xs.drop (i * 5)).take 5).drop j).take 1 = [v] → xs[i * 5 + j]? = some v := fun {j v} hj hv => by
      have := get9 hv
      rw [List.getElem?_take, if_pos hj, List.getElem?_drop] at this
      exact this
    have d : ∀ {j : Nat} {v : Value}, j < 3 → ((((xs.drop (i * 5)).take 5).drop 2).take 3)[j]? = some v → xs[i * 5 + (2 + j)]? = some v := fun {j v} hj hv => by
      rw [List.getElem?_take, if_pos hj, List.getElem?_drop, List.getElem?_take, if_pos (by omega), List.getElem?_drop] at hv
      exact hv
    refine ⟨⟨k, s, v⟩, fun j u hj => ?_, hk.1, hk.2, hs, hv⟩
    match j, hj with
    | 0, hj => cases hj; exact c (by decide) e0
    | 1, hj => cases hj; exact c (by decide) e1
    | 2, hj => cases hj; exact d (by decide) v0
    | 3, hj => cases hj; exact d (by decide) v1
    | 4, hj => cases hj; exact d (by decide) v2
    | j + 5, hj => simp [opCells] at hj
  have hxl : xs.length = os.length * 5 := by rw [h1]; exact hr.2.2.2.1
  have hx := flat_of opCells5 (by decide) hxl fun i o ho => (h2 i o ho).1
  refine ⟨os, ⟨h1.symm, by rw [← hx]; exact hr⟩, fun o ho => ?_⟩
  obtain ⟨i, hi⟩ := List.getElem?_of_mem ho
  exact (h2 i o hi).2
theorem rdSn_open {H : Type} {enc : TypeId × Value → H} {w : World} {base : Nat} {sp : Nat → Bool} {held : Bool} {fuel : Nat} {a : Option Addr} {len cap : Nat} {x : DataW H × List MemPlace}
    (h : DataW.trod enc Tryz.prog w base sp held fuel 32 (Value.slice a len cap).cells.toList = some x) : ∃ l, RdS w a len cap l := by
  obtain ⟨xs, hr, m, hel⟩ := rd_open (size := 7) Tryz.underlying32 (by kernel_rfl) (by decide) h
  obtain ⟨os, h1, h2⟩ := choose_list9 (P := fun i (o : SnP) => (∀ (j : Nat) (u : Value), (snCells o)[j]? = some u → xs[i * 7 + j]? = some u) ∧ SnOk o) len fun i hi => by
    obtain ⟨y, hy⟩ := hel i hi
    obtain ⟨_, n, hf⟩ := field9 Tryz.underlying52 hy
    obtain ⟨y0, h0⟩ := hf 0 _ rfl
    obtain ⟨y1, h1⟩ := hf 1 _ rfl
    obtain ⟨y2, h2⟩ := hf 2 _ rfl
    obtain ⟨s, e0, hs⟩ := str9 Tryz.underlying9 h0
    obtain ⟨v, v0, v1, v2, hv⟩ := vl9 h1
    obtain ⟨_, n2, hg⟩ := field9 Tryz.underlying50 h2
    obtain ⟨z0, g0⟩ := hg 0 _ rfl
    obtain ⟨z1, g1⟩ := hg 1 _ rfl
    obtain ⟨z2, g2⟩ := hg 2 _ rfl
    obtain ⟨p0, i0, _⟩ := int9 Tryz.underlying3 g0
    obtain ⟨p1, i1, _⟩ := int9 Tryz.underlying3 g1
    obtain ⟨p2, i2, _⟩ := int9 Tryz.underlying3 g2
    have c : ∀ {j : Nat} {v : Value}, j < 7 → (((xs.drop (i * 7)).take 7).drop j).take 1 = [v] → xs[i * 7 + j]? = some v := fun {j v} hj hv => by
      have := get9 hv
      rw [List.getElem?_take, if_pos hj, List.getElem?_drop] at this
      exact this
    have d : ∀ {j : Nat} {v : Value}, j < 3 → ((((xs.drop (i * 7)).take 7).drop 1).take 3)[j]? = some v → xs[i * 7 + (1 + j)]? = some v := fun {j v} hj hv => by
      rw [List.getElem?_take, if_pos hj, List.getElem?_drop, List.getElem?_take, if_pos (by omega), List.getElem?_drop] at hv
      exact hv
    have f : ∀ {j : Nat} {v : Value}, j < 3 → ((((((xs.drop (i * 7)).take 7).drop 4).take 3).drop j).take 1) = [v] → xs[i * 7 + (4 + j)]? = some v := fun {j v} hj hv => by
      have := get9 hv
      rw [List.getElem?_take, if_pos hj, List.getElem?_drop, List.getElem?_take, if_pos (by omega), List.getElem?_drop] at this
      exact this
    refine ⟨⟨s, v, p0, p1, p2⟩, fun j u hj => ?_, hs, hv⟩
    match j, hj with
    | 0, hj => cases hj; exact c (by decide) e0
    | 1, hj => cases hj; exact d (by decide) v0
    | 2, hj => cases hj; exact d (by decide) v1
    | 3, hj => cases hj; exact d (by decide) v2
    | 4, hj => cases hj; exact f (by decide) i0
    | 5, hj => cases hj; exact f (by decide) i1
    | 6, hj => cases hj; exact f (by decide) i2
    | j + 7, hj => simp [snCells] at hj
  have hxl : xs.length = os.length * 7 := by rw [h1]; exact hr.2.2.2.1
  have hx := flat_of snCells7 (by decide) hxl fun i o ho => (h2 i o ho).1
  refine ⟨os, ⟨h1.symm, by rw [← hx]; exact hr⟩, fun o ho => ?_⟩
  obtain ⟨i, hi⟩ := List.getElem?_of_mem ho
  exact (h2 i o hi).2
end Go.Proofs.YtalpbphfmelhhaaGreatDoor
