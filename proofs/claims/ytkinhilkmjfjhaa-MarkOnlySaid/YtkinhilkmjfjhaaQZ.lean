/-
  A mark turned into the document's; lists of marks to save.
  Marks to save, as they are handed in.
  Plain law of MarkWhole: what a Save that may be cut off, and a crash behind it, leave.
-/
import Derived.Test.YtkinhilkmjfjhaaQ10
import Derived.Test.YtkinhilkmjfjhaaE20
/-! ### A mark turned into the document's; lists of marks to save. -/
namespace Go.Proofs.Ytkinhilkmjfjhaa
open Go.RowKit Go.Maps Go.Sort
set_option maxRecDepth 100000
attribute [local go_sem] bs_size bs_toList

theorem results_cell_one {fn : Func} {p : Tmp} {ty : TypeId} (h : fn.results = #[.cell p ty]) (tmps : Array Value) (P : Program) (w : World) :
    (results fn tmps).run P w = ((asAddr (tmps.getD p undef)).run P w).andThen fun a w₁ => (loadVar ty a).run P w₁ := by
  simp only [results, h]
  simp [Sem.run_bind, Result.andThen]
/-- The new mark while its tails are laid behind one another. -/
structure MkAt (q : Nat) (W : World) (m : Mk) (v : Value) (ts : List (Int × Int)) (X : World) : Prop where
  low : Below q W X
  row : X.heap[q]? = some (.cells #[.int .i64 m.wall, .int .i64 m.logi, .int .i64 m.node, v] 49 (0, 0))
  own : OwnT X (q + 1) 96 v ts
theorem MkAt.lt {q : Nat} {W : World} {m : Mk} {v : Value} {ts : List (Int × Int)} {X : World} (h : MkAt q W m v ts X) : q < X.heap.size := (Array.getElem?_eq_some_iff.1 h.row).1
theorem MkAt.new {q : Nat} {W : World} {m : Mk} {v : Value} {ts : List (Int × Int)} {X X' : World} (h : MkAt q W m v ts X) (hb : Below X.heap.size X X') : MkAt q W m v ts X' :=
  ⟨h.low.trans (hb.mono (Nat.le_of_lt h.lt)), (hb.block q h.lt).trans h.row, OwnT.below h.own (Nat.le_refl _) hb⟩
theorem MkAt.app {q : Nat} {W : World} {m : Mk} {v v' : Value} {ts ts' : List (Int × Int)} {X X1 X' : World} (h : MkAt q W m v ts X) (hb : Below X.heap.size X X1) (hg : X1.grownBy X' v.ownBlock) (ho : OwnT X' (q + 1) 96 v' ts') :
    MkAt q W m v' ts' (X'.setCell ⟨q, 3, none⟩ v') ∧ X'.cell? ⟨q, 3, none⟩ = some v ∧ X'.frozen? ⟨q, 3, none⟩ = false ∧ q < X'.heap.size := by
  have h1 := h.new hb
  have hf : Fr (fun k => v.ownBlock = some k) X1 X' := (Fr.refl _ X1).grown hg fun k _ e => e
  have hov : ∀ k, v.ownBlock = some k → q + 1 ≤ k := fun k hk => (World.ownsRow.lt h1.own k hk).1
  have hq : X'.heap[q]? = _ := (hf.block q h1.lt fun e => by have := hov q e; omega).trans h1.row
  have hs : Fr (fun k => k = q) X' (X'.setCell ⟨q, 3, none⟩ v') := (Fr.refl (fun k => k = q) X').setCell (p := ⟨q, 3, none⟩) (fun _ => rfl) _
  refine ⟨⟨(h1.low.trans (hf.below (Nat.le_of_lt h1.lt) fun k hk e => by have := hov k e; omega)).setCell (p := ⟨q, 3, none⟩) (Nat.le_refl _) _, row_set (i := 3) hq rfl, ownsRow_keep ho fun k hk => hs.block k (World.ownsRow.lt ho k hk).2 fun e => ?_⟩, cell_of_row _ _ 3 _ _ _ hq, frozen_of_row _ _ 3 _ _ hq, (Array.getElem?_eq_some_iff.1 hq).1⟩
  have := (World.ownsRow.lt ho k hk).1; omega
set_option maxHeartbeats 4000000 in
theorem mkRef_any (m : Mk) (a : Option Addr) (cap : Nat) (w : World) (h : RdT w a cap m.ts) (hl : m.ts.length ≤ 200) :
    Calls Try.prog 17 #[mkV m (.slice a m.ts.length cap)] w fun e w' => ∃ v, e = .returned (mkV m v) ∧ OwnT w' w.heap.size 96 v m.ts ∧ Below w.heap.size w w' := by
  obtain ⟨n, hn⟩ : ∃ n, m.ts.length = n := ⟨_, rfl⟩
  rw [hn] at hl ⊢
  have hr1 := heap_alloc_new w (.cells #[.int .i64 m.wall, .int .i64 m.logi, .int .i64 m.node, .slice a n cap] 34)
  have hb1 : Below w.heap.size w (w.alloc (.cells #[.int .i64 m.wall, .int .i64 m.logi, .int .i64 m.node, .slice a n cap] 34)) := (Below.refl _ _).alloc (Nat.le_refl _) _
  obtain ⟨W1, hW1⟩ : ∃ W1, w.alloc (.cells #[.int .i64 m.wall, .int .i64 m.logi, .int .i64 m.node, .slice a n cap] 34) = W1 := ⟨_, rfl⟩
  rw [hW1] at hr1 hb1
  have hs1 : W1.heap.size = w.heap.size + 1 := by rw [← hW1]; simp
  have hr2 := heap_alloc_new W1 (.cells #[.int .i64 0, .int .i64 0, .int .i64 0, .slice none 0 0] 49)
  have hb2 : Below W1.heap.size W1 (W1.alloc (.cells #[.int .i64 0, .int .i64 0, .int .i64 0, .slice none 0 0] 49)) := (Below.refl _ _).alloc (Nat.le_refl _) _
  obtain ⟨W2, hW2⟩ : ∃ W2, W1.alloc (.cells #[.int .i64 0, .int .i64 0, .int .i64 0, .slice none 0 0] 49) = W2 := ⟨_, rfl⟩
  rw [hW2] at hr2 hb2
  have hs2 : W2.heap.size = w.heap.size + 2 := by rw [← hW2]; simp [hs1]
  have hr12 := (hb2.block w.heap.size (by omega)).trans hr1
  have c0 := cell_of_row _ _ 0 _ _ _ hr12
  have c1 := cell_of_row _ _ 1 _ _ _ hr12
  have c2 := cell_of_row _ _ 2 _ _ _ hr12
  have c3 := cell_of_row _ _ 3 _ _ _ hr12
  have hb12 : Below w.heap.size w W2 := hb1.trans (hb2.mono hb1.size)
  have HB := Lib.hid hb12
  have HR := Lib.hid (h.below hb12)
  have HN := Lib.hid hn
  have HR2 := Lib.hid hr2
  have HR1 := Lib.hid hr12
  have HW1 := Lib.hid hW1
  have HW2 := Lib.hid hW2
  have HS1 := Lib.hid hs1
  have HS2 := Lib.hid hs2
  clear h hn hr1 hb1 hr2 hb2 hr12 hb12 hs1 hs2
  go_enter Try.func17, Try.ntmps17
  go_wp2
  have hat : MkAt W2.heap.size W2 m (.slice none 0 0) [] (W2.alloc (.cells #[.int .i64 m.wall, .int .i64 m.logi, .int .i64 m.node, .slice none 0 0] 49)) := ⟨(Below.refl _ _).alloc (Nat.le_refl _) _, heap_alloc_new _ _, OwnT.nil _ _ _⟩
  obtain ⟨W3, hW3⟩ : ∃ W3, W2.alloc (.cells #[.int .i64 m.wall, .int .i64 m.logi, .int .i64 m.node, .slice none 0 0] 49) = W3 := ⟨_, rfl⟩
  have hq : ∃ q, W2.heap.size = q := ⟨_, rfl⟩
  obtain ⟨q, hq⟩ := hq
  rw [hW3, hq] at hat ⊢
  have HAT := Lib.hid hat
  have HQ := Lib.hid hq
  clear hat hW3 c0 c1 c2 c3 hW1 hW2 hq
  go_loopw [4] (fun i wr => ∃ (k : Nat) (v : Value), k ≤ n ∧ i = .int .i64 k ∧ Hid (MkAt q W2 m v (m.ts.take k) wr)) (fun i _ => n - (intOf i).toNat)
  case atStart => exact ⟨0, _, Nat.zero_le _, rfl, HAT.out⟩
  case round =>
    clear HAT
    obtain ⟨k, v, hk, rfl, HA⟩ := hrel
    have hb2r : Below W2.heap.size W2 wr := by rw [HQ.out]; exact HA.out.low
    have hr1 := (hb2r.block w.heap.size (Array.getElem?_eq_some_iff.1 HR1.out).1).trans HR1.out
    have g3 := cell_of_row _ _ 3 _ _ _ hr1
    have HBW := Lib.hid hb2r
    clear hb2r hr1
    by_cases hlt : k < n
    · obtain ⟨b, off, rfl, hbl, q0, q1⟩ := (HR.out.below HBW.out).at (k := k) (by rw [HN.out]; exact hlt)
      have hg : m.ts[k]? = some (m.ts.getD k (0, 0)) := by simp [List.getD, show k < m.ts.length by rw [HN.out]; exact hlt]
      obtain ⟨x, hx⟩ : ∃ x, (m.ts.getD k (0, 0)).1 = x := ⟨_, rfl⟩
      obtain ⟨y, hy⟩ : ∃ y, (m.ts.getD k (0, 0)).2 = y := ⟨_, rfl⟩
      have hnx : m.ts.take (k + 1) = m.ts.take k ++ [(x, y)] := by
        rw [List.take_add_one, hg, ← hx, ← hy]; rfl
      rw [hx] at q0
      rw [hy] at q1
      have htl : (m.ts.take k).length = k := by rw [List.length_take, HN.out]; omega
      have HTL := Lib.hid htl
      have HNX := Lib.hid hnx
      have hn3 := cell_of_row _ _ 3 _ _ _ HA.out.row
      obtain ⟨av, cv, rfl, hav⟩ := HA.out.own.rd
      rw [htl] at hn3
      have HAV : Hid (OwnT wr (q + 1) 96 (.slice av k cv) (m.ts.take k)) := by have := HA.out.own; rw [htl] at this; exact this
      have HA2 : Hid (MkAt q W2 m (.slice av k cv) (m.ts.take k) wr) := by have := HA.out; rw [htl] at this; exact this
      clear hx hy hg hbl htl hav hnx HA
      go_wp2_with fail
      refine wp_region_ht 16 (fun W => W.cell? ⟨q, 3, none⟩ = some (.slice av k cv) ∧ W.cell? ⟨w.heap.size, 3, none⟩ = some (.slice (some ⟨b, off, none⟩) n cap) ∧ W.cell? ⟨b, off + k * 2, none⟩ = some (.int .i64 x) ∧ W.cell? ⟨b, off + k * 2 + 1, none⟩ = some (.int .i64 y)) (by kernel_rfl) (by kernel_rfl) ?_ (fun hHeld => ?_)
      · exact ⟨hn3, g3, q0, q1⟩
      try simp only [Act.put, List.setIfInBounds_toArray, List.set_cons_zero, List.set_cons_succ]
      refine wpHT_takeD (i := 0) (d := 15) (v := ?_) (by kernel_rfl) rfl rfl (by decide) (by kernel_rfl) (by kernel_rfl) (fun _ _ _ h => h) (Or.inl ⟨by kernel_rfl, ?_⟩) (by assumption) ?_
      rotate_left
      · intro w hSw; (try dsimp only at hSw); go_simp; (try with_reducible rfl)
      try simp only [Act.put, List.setIfInBounds_toArray, List.set_cons_zero, List.set_cons_succ]
      refine wpHT_takeD (i := 1) (d := 16) (v := ?_) (by kernel_rfl) rfl rfl (by decide) (by kernel_rfl) (by kernel_rfl) (fun _ _ _ h => h) (Or.inl ⟨by kernel_rfl, ?_⟩) (by assumption) ?_
      rotate_left
      · intro w hSw; (try dsimp only at hSw); go_simp; (try with_reducible rfl)
      try simp only [Act.put, List.setIfInBounds_toArray, List.set_cons_zero, List.set_cons_succ]
      refine wpHT_takeD (i := 2) (d := 17) (v := ?_) (by kernel_rfl) rfl rfl (by decide) (by kernel_rfl) (by kernel_rfl) (fun _ _ _ h => h) (Or.inl ⟨by kernel_rfl, ?_⟩) (by assumption) ?_
      rotate_left
      · intro w hSw; (try dsimp only at hSw); go_simp; (try with_reducible rfl)
      try simp only [Act.put, List.setIfInBounds_toArray, List.set_cons_zero, List.set_cons_succ]
      refine wpHT_takeD (i := 3) (d := 18) (v := ?_) (by kernel_rfl) rfl rfl (by decide) (by kernel_rfl) (by kernel_rfl) (fun _ _ _ h => h) (Or.inl ⟨by kernel_rfl, ?_⟩) (by assumption) ?_
      rotate_left
      · intro w hSw; (try dsimp only at hSw); go_simp; (try with_reducible rfl)
      try simp only [Act.put, List.setIfInBounds_toArray, List.set_cons_zero, List.set_cons_succ]
      refine wpHT_takeD (i := 4) (d := 19) (v := ?_) (by kernel_rfl) rfl rfl (by decide) (by kernel_rfl) (by kernel_rfl) (fun _ _ _ h => h) (Or.inl ⟨by kernel_rfl, ?_⟩) (by assumption) ?_
      rotate_left
      · intro w hSw; (try dsimp only at hSw); go_simp; (try with_reducible rfl)
      try simp only [Act.put, List.setIfInBounds_toArray, List.set_cons_zero, List.set_cons_succ]
      refine wpHT_takeD (i := 5) (d := 20) (v := ?_) (by kernel_rfl) rfl rfl (by decide) (by kernel_rfl) (by kernel_rfl) (fun _ _ _ h => h) (Or.inl ⟨by kernel_rfl, ?_⟩) (by assumption) ?_
      rotate_left
      · intro w hSw; (try dsimp only at hSw); go_simp; (try with_reducible rfl)
      try simp only [Act.put, List.setIfInBounds_toArray, List.set_cons_zero, List.set_cons_succ]
      refine wpHT_takeD (i := 6) (d := 21) (v := ?_) (by kernel_rfl) rfl rfl (by decide) (by kernel_rfl) (by kernel_rfl) (fun _ _ _ h => h) (Or.inl ⟨by kernel_rfl, ?_⟩) (by assumption) ?_
      rotate_left
      · intro w hSw; (try dsimp only at hSw); go_simp; (try with_reducible rfl)
      try simp only [Act.put, List.setIfInBounds_toArray, List.set_cons_zero, List.set_cons_succ]
      refine wpHT_takeD (i := 7) (d := 22) (v := ?_) (by kernel_rfl) rfl rfl (by decide) (by kernel_rfl) (by kernel_rfl) (fun _ _ _ h => h) (Or.inl ⟨by kernel_rfl, ?_⟩) (by assumption) ?_
      rotate_left
      · intro w hSw; (try dsimp only at hSw); go_simp; (try with_reducible rfl)
      try simp only [Act.put, List.setIfInBounds_toArray, List.set_cons_zero, List.set_cons_succ]
      refine wpHT_takeD (i := 8) (d := 23) (v := ?_) (by kernel_rfl) rfl rfl (by decide) (by kernel_rfl) (by kernel_rfl) (fun _ _ _ h => h) (Or.inl ⟨by kernel_rfl, ?_⟩) (by assumption) ?_
      rotate_left
      · intro w hSw; (try dsimp only at hSw); go_simp; (try with_reducible rfl)
      try simp only [Act.put, List.setIfInBounds_toArray, List.set_cons_zero, List.set_cons_succ]
      refine wpHT_takeD (i := 9) (d := 24) (v := ?_) (by kernel_rfl) rfl rfl (by decide) (by kernel_rfl) (by kernel_rfl) (fun _ _ _ h => h) (Or.inl ⟨by kernel_rfl, ?_⟩) (by assumption) ?_
      rotate_left
      · intro w hSw; (try dsimp only at hSw); go_simp; (try with_reducible rfl)
      try simp only [Act.put, List.setIfInBounds_toArray, List.set_cons_zero, List.set_cons_succ]
      refine wpHT_takeD (i := 10) (d := 25) (v := ?_) (by kernel_rfl) rfl rfl (by decide) (by kernel_rfl) (by kernel_rfl) (fun _ _ _ h => h) (Or.inl ⟨by kernel_rfl, ?_⟩) (by assumption) ?_
      rotate_left
      · intro w hSw; (try dsimp only at hSw); go_simp; (try with_reducible rfl)
      try simp only [Act.put, List.setIfInBounds_toArray, List.set_cons_zero, List.set_cons_succ]
      refine wpHT_takeD (i := 11) (d := 26) (v := ?_) (by kernel_rfl) rfl rfl (by decide) (by kernel_rfl) (by kernel_rfl) (fun _ _ _ h => h) (Or.inl ⟨by kernel_rfl, ?_⟩) (by assumption) ?_
      rotate_left
      · intro w hSw; (try dsimp only at hSw); go_simp; (try with_reducible rfl)
      try simp only [Act.put, List.setIfInBounds_toArray, List.set_cons_zero, List.set_cons_succ]
      refine wpHT_takeD (i := 12) (d := 27) (v := ?_) (by kernel_rfl) rfl rfl (by decide) (by kernel_rfl) (by kernel_rfl) (fun _ _ _ h => h) (Or.inl ⟨by kernel_rfl, ?_⟩) (by assumption) ?_
      rotate_left
      · intro w hSw; (try dsimp only at hSw); go_simp; (try with_reducible rfl)
      try simp only [Act.put, List.setIfInBounds_toArray, List.set_cons_zero, List.set_cons_succ]
      refine wpHT_takeD (i := 13) (d := 28) (v := ?_) (by kernel_rfl) rfl rfl (by decide) (by kernel_rfl) (by kernel_rfl) (fun _ _ _ h => h) (Or.inl ⟨by kernel_rfl, ?_⟩) (by assumption) ?_
      rotate_left
      · intro w hSw; (try dsimp only at hSw); go_simp; (try with_reducible rfl)
      try simp only [Act.put, List.setIfInBounds_toArray, List.set_cons_zero, List.set_cons_succ]
      refine wpHT_takeD (i := 14) (d := 29) (v := ?_) (by kernel_rfl) rfl rfl (by decide) (by kernel_rfl) (by kernel_rfl) (fun _ _ _ h => h) (Or.inl ⟨by kernel_rfl, ?_⟩) (by assumption) ?_
      rotate_left
      · intro w hSw; (try dsimp only at hSw); go_simp; (try with_reducible rfl)
      try simp only [Act.put, List.setIfInBounds_toArray, List.set_cons_zero, List.set_cons_succ]
      refine wpHT_one (i := 15) (by kernel_rfl) rfl (by decide) (fun K hK => ?_)
      go_simp
      refine hK.out _ _ ?_ (fun hHeld => ?_)
      · exact ⟨cell_alloc_keep (w := wr.drew) hn3, cell_alloc_keep (w := wr.drew) g3, cell_alloc_keep (w := wr.drew) q0, cell_alloc_keep (w := wr.drew) q1⟩
      clear hK K
      try simp only [Act.put, List.setIfInBounds_toArray, List.set_cons_zero, List.set_cons_succ]
      refine wpHT_done (by kernel_rfl) ?_
      simp only [List.drop_succ_cons, List.drop_zero]
      clear hHeld hn3 g3 q0 q1
      have hba : Below wr.heap.size wr (wr.drew.alloc (.cells #[.int .i64 x, .int .i64 y] 96)) := (Below.refl _ wr).drew.alloc (Nat.le_refl _) _
      have hqa : q + 1 ≤ (wr.drew.alloc (.cells #[.int .i64 x, .int .i64 y] 96)).heap.size := Nat.le_trans HA2.out.lt hba.size
      have HBA := Lib.hid hba
      clear hba
      go_wp2_with (at_builtin; refine wpList_app rSTc rfl (.tmp 16) (.tmp 30) rfl (q + 1) rfl (HA2.out.new HBA.out).own rfl (Rd.one2 wr.drew _ _ _) (by simp; exact ⟨rfl, rfl⟩) (by have := HTL.out; omega) (by have := HTL.out; unfold maxLen; omega) hqa ?_)
      intro v' w5 ho5 _ hg5
      have ho5 : OwnT w5 (q + 1) 96 v' (m.ts.take k ++ [(x, y)]) := by
        unfold OwnT
        rw [tCells_app, List.length_append, List.length_take]
        exact ho5
      obtain ⟨hnew, m0, m1, m2⟩ := HA2.out.app HBA.out hg5 ho5
      have HNEW := Lib.hid hnew
      obtain ⟨bv, dv, hv, hbv⟩ := ho5.rd
      rw [List.length_append, HTL.out] at hv
      have hv : v' = .slice bv (k + 1) dv := hv
      subst hv
      clear ho5 hg5 hqa hbv hnew
      go_wp2_with fail
      go_roundw
      case rel => exact ⟨k + 1, _, by omega, by go_num, by rw [HNX.out]; exact HNEW.out⟩
      case measure => simp [intOf]; omega
    · obtain rfl : k = n := by omega
      have htl : m.ts.take k = m.ts := by rw [← HN.out, List.take_length]
      rw [htl] at HA
      obtain ⟨av, cv, rfl, hav⟩ := HA.out.own.rd
      clear hav
      have hq0 := HA.out.row
      have q0 := cell_of_row _ _ 0 _ _ _ hq0
      have q1 := cell_of_row _ _ 1 _ _ _ hq0
      have q2 := cell_of_row _ _ 2 _ _ _ hq0
      have q3 := cell_of_row _ _ 3 _ _ _ hq0
      have hz := (HBW.out.block W1.heap.size (Array.getElem?_eq_some_iff.1 HR2.out).1).trans HR2.out
      have HZ := Lib.hid hz
      have z0 := cell_of_row _ _ 0 _ _ _ hz
      have z1 := cell_of_row _ _ 1 _ _ _ hz
      have z2 := cell_of_row _ _ 2 _ _ _ hz
      have z3 := cell_of_row _ _ 3 _ _ _ hz
      have y0 := frozen_of_row _ _ 0 _ _ hz
      have y1 := frozen_of_row _ _ 1 _ _ hz
      have y2 := frozen_of_row _ _ 2 _ _ hz
      have y3 := frozen_of_row _ _ 3 _ _ hz
      have hzl := (Array.getElem?_eq_some_iff.1 hz).1
      clear hz hq0 htl
      go_wp2_with fail
      have r4 := row_set4 HZ.out (.int .i64 m.wall) (.int .i64 m.logi) (.int .i64 m.node) (.slice av m.ts.length cv)
      (try simp only [Exit.inBlock, Exit.then])
      refine bodyPost_ret (v := mkV m (.slice av m.ts.length cv)) ?_ rfl ?_
      · rw [results_cell_one rfl]
        simp [asAddr, Result.andThen, rload_row r4]
      · have hs1 := HS1.out
        have hs2 := HS2.out
        have hq' := HQ.out
        refine ⟨_, rfl, ownsRow_keep (ownsRow_mono HA.out.own (by omega)) fun j hj => ?_, below_set4 (HB.out.trans (HBW.out.mono HB.out.size)) (by omega) _ _ _ _⟩
        exact same_set4 (fun e => by have := (World.ownsRow.lt HA.out.own j hj).1; omega) _ _ _ _

/-! ### marks to save -/
structure SvV where
  m : Mk
  st : Int
  p : List Int
def svCells (s : SvV) (a : Option Addr) (c : Nat) (ap : Option Addr) (cp : Nat) : List Value := [.int .i64 s.m.wall, .int .i64 s.m.logi, .int .i64 s.m.node, .slice a s.m.ts.length c, .int .i64 s.st, .slice ap s.p.length cp]
def SvRd (w : World) (s : SvV) (a : Option Addr) (c : Nat) (ap : Option Addr) (cp : Nat) : Prop :=
  (-9223372036854775808 ≤ s.st ∧ s.st ≤ 9223372036854775807) ∧ RdT w a c s.m.ts ∧ RdI w ap s.p.length cp s.p ∧ BlkIn a s.m.ts.length (fun b => b < w.heap.size) ∧ BlkIn ap s.p.length (fun b => b < w.heap.size)
def RdSv (w : World) (a : Option Addr) (n cap : Nat) (l : List SvV) : Prop :=
  n = l.length ∧ ∃ xs, Rd w a n cap 6 xs ∧ ∀ (i : Nat) (s : SvV), l[i]? = some s → ∃ a c ap cp, (∀ (j : Nat) (u : Value), (svCells s a c ap cp)[j]? = some u → xs[i * 6 + j]? = some u) ∧ SvRd w s a c ap cp
theorem RdSv.at {w W : World} (hb : Below w.heap.size w W) {a : Option Addr} {n cap : Nat} {l : List SvV} (h : RdSv w a n cap l) {k : Nat} {s : SvV} (hs : l[k]? = some s) :
    ∃ b off at_ c ap cp, a = some ⟨b, off, none⟩ ∧ b < w.heap.size ∧ RdT W at_ c s.m.ts ∧ RdI W ap s.p.length cp s.p ∧ BlkIn at_ s.m.ts.length (fun b => b < w.heap.size) ∧ BlkIn ap s.p.length (fun b => b < w.heap.size) ∧ (-9223372036854775808 ≤ s.st ∧ s.st ≤ 9223372036854775807) ∧
      W.cell? ⟨b, off + k * 6, none⟩ = some (.int .i64 s.m.wall) ∧ W.cell? ⟨b, off + k * 6 + 1, none⟩ = some (.int .i64 s.m.logi) ∧ W.cell? ⟨b, off + k * 6 + 2, none⟩ = some (.int .i64 s.m.node) ∧
      W.cell? ⟨b, off + k * 6 + 3, none⟩ = some (.slice at_ s.m.ts.length c) ∧ W.cell? ⟨b, off + k * 6 + 4, none⟩ = some (.int .i64 s.st) ∧ W.cell? ⟨b, off + k * 6 + 5, none⟩ = some (.slice ap s.p.length cp) := by
  obtain ⟨rfl, xs, hr, h2⟩ := h
  have hk : k < l.length := (List.getElem?_eq_some_iff.1 hs).1
  obtain ⟨at_, c, ap, cp, hc, h1, h3, h4, h5, h6⟩ := h2 k s hs
  obtain ⟨b, off, rfl, hbl, hcell⟩ := (hr.below hb).at (by omega)
  have hbl' : b < w.heap.size := by
    obtain ⟨b', off', e, hb', _⟩ := hr.at (by omega)
    cases e; exact hb'
  refine ⟨b, off, at_, c, ap, cp, rfl, hbl', h3.below hb, h4.below hb, h5, h6, h1, hcell _ _ (hc 0 _ rfl), ?_, ?_, ?_, ?_, ?_⟩
  · rw [Nat.add_assoc]; exact hcell _ _ (hc 1 _ rfl)
  · rw [Nat.add_assoc]; exact hcell _ _ (hc 2 _ rfl)
  · rw [Nat.add_assoc]; exact hcell _ _ (hc 3 _ rfl)
  · rw [Nat.add_assoc]; exact hcell _ _ (hc 4 _ rfl)
  · rw [Nat.add_assoc]; exact hcell _ _ (hc 5 _ rfl)
end Go.Proofs.Ytkinhilkmjfjhaa

/-! ### Marks to save, as they are handed in. -/
namespace Go.Proofs.Ytkinhilkmjfjhaa
open Go.RowKit Go.Maps Go.Sort
set_option maxRecDepth 100000

theorem rdT_open {H : Type} {enc : TypeId × Value → H} {w : World} {base : Nat} {sp : Nat → Bool} {held : Bool} {fuel : Nat} {a : Option Addr} {len cap : Nat} {x : DataW H × List MemPlace}
    (h : DataW.trod enc Try.prog w base sp held fuel 32 (Value.slice a len cap).cells.toList = some x) : ∃ ts, len = ts.length ∧ RdT w a cap ts := by
  obtain ⟨xs, hr, m, hel⟩ := rd_open (size := 2) Try.underlying32 (by kernel_rfl) (by decide) h
  obtain ⟨ts, h1, h2⟩ := choose_list (P := fun i (c : Int × Int) => xs[i * 2]? = some (.int .i64 c.1) ∧ xs[i * 2 + 1]? = some (.int .i64 c.2)) len fun i hi => by
    obtain ⟨y, hy⟩ := hel i hi
    obtain ⟨_, n, hf⟩ := field_of Try.underlying68 hy
    obtain ⟨y0, h0⟩ := hf 0 _ rfl
    obtain ⟨y1, h1⟩ := hf 1 _ rfl
    obtain ⟨k, e0, hk⟩ := int_open Try.underlying3 h0
    obtain ⟨nn, e1, hnn⟩ := int_open Try.underlying3 h1
    have c : ∀ {j : Nat} {v : Value}, j < 2 → (((xs.drop (i * 2)).take 2).drop j).take 1 = [v] → xs[i * 2 + j]? = some v := fun {j v} hj hv => by
      have := one_get hv
      rw [List.getElem?_take, if_pos hj, List.getElem?_drop] at this
      exact this
    exact ⟨(k, nn), c (by decide) e0, c (by decide) e1⟩
  refine ⟨ts, h1.symm, ?_⟩
  have hxs : xs = tCells ts := by
    have hl : xs.length = ts.length * 2 := by rw [hr.2.2.2.1, h1]
    apply List.ext_getElem?
    intro j
    rcases Nat.lt_or_ge j (ts.length * 2) with hj | hj
    · have hi : j / 2 < ts.length := by omega
      obtain ⟨z, hz⟩ : ∃ z, ts[j / 2]? = some z := ⟨_, List.getElem?_eq_getElem hi⟩
      obtain ⟨g1, g2⟩ := h2 (j / 2) z hz
      obtain ⟨g3, g4⟩ := tCells_get ts (j / 2) hi
      have e : ts.getD (j / 2) (0, 0) = z := by simp [List.getD, hz]
      rw [e] at g3 g4
      rcases Nat.mod_two_eq_zero_or_one j with hm | hm
      · rw [show j = j / 2 * 2 by omega, g1, g3]
      · rw [show j = j / 2 * 2 + 1 by omega, g2, g4]
    · rw [List.getElem?_eq_none (by omega), List.getElem?_eq_none (by rw [tCells_len]; omega)]
  unfold RdT
  rw [← hxs, h1]
  exact hr
theorem rdSv_open {H : Type} {enc : TypeId × Value → H} {w : World} {base : Nat} {sp : Nat → Bool} {held : Bool} {fuel : Nat} {a : Option Addr} {len cap : Nat} {x : DataW H × List MemPlace}
    (h : DataW.trod enc Try.prog w base sp held fuel 22 (Value.slice a len cap).cells.toList = some x) : ∃ l, RdSv w a len cap l := by
  obtain ⟨xs, hr, m, hel⟩ := rd_open (size := 6) Try.underlying22 (by kernel_rfl) (by decide) h
  obtain ⟨os, h1, h2⟩ := choose_list (P := fun i (s : SvV) => ∃ a c ap cp, (∀ (j : Nat) (u : Value), (svCells s a c ap cp)[j]? = some u → xs[i * 6 + j]? = some u) ∧ SvRd w s a c ap cp) len fun i hi => by
    obtain ⟨y, hy⟩ := hel i hi
    obtain ⟨_, n, hf⟩ := field_of Try.underlying37 hy
    obtain ⟨y0, h0⟩ := hf 0 _ rfl
    obtain ⟨y1, h1⟩ := hf 1 _ rfl
    obtain ⟨y2, h2⟩ := hf 2 _ rfl
    obtain ⟨_, n2, hf2⟩ := field_of Try.underlying34 h0
    obtain ⟨z0, k0⟩ := hf2 0 _ rfl
    obtain ⟨z1, k1⟩ := hf2 1 _ rfl
    obtain ⟨_, n3, hf3⟩ := field_of Try.underlying31 k0
    obtain ⟨_, j0⟩ := hf3 0 _ rfl
    obtain ⟨_, j1⟩ := hf3 1 _ rfl
    obtain ⟨_, j2⟩ := hf3 2 _ rfl
    obtain ⟨x0, e0, _⟩ := int_open Try.underlying3 j0
    obtain ⟨x1, e1, _⟩ := int_open Try.underlying3 j1
    obtain ⟨x2, e2, _⟩ := int_open Try.underlying3 j2
    obtain ⟨at_, lt_, ct, e3⟩ := slice_form Try.underlying32 k1
    obtain ⟨st, e4, hst⟩ := int_open Try.underlying3 h1
    obtain ⟨ap, lp, cp, e5⟩ := slice_form Try.underlying35 h2
    rw [e3] at k1
    rw [e5] at h2
    obtain ⟨ts, rfl, hts⟩ := rdT_open (a := at_) (len := lt_) (cap := ct) k1
    obtain ⟨p, hp⟩ := rdI_open (a := ap) (len := lp) (cap := cp) Try.underlying35 Try.underlying3 (by kernel_rfl) h2
    obtain rfl : lp = p.length := hp.1
    have e0 : List.take 1 (List.drop 0 (List.take 3 (List.drop 0 (List.take 4 (List.drop 0 (List.take 6 (List.drop (i * 6) xs))))))) = [_] := e0
    have e1 : List.take 1 (List.drop 1 (List.take 3 (List.drop 0 (List.take 4 (List.drop 0 (List.take 6 (List.drop (i * 6) xs))))))) = [_] := e1
    have e2 : List.take 1 (List.drop 2 (List.take 3 (List.drop 0 (List.take 4 (List.drop 0 (List.take 6 (List.drop (i * 6) xs))))))) = [_] := e2
    have e3 : List.take 1 (List.drop 3 (List.take 4 (List.drop 0 (List.take 6 (List.drop (i * 6) xs))))) = [_] := e3
    have e4 : List.take 1 (List.drop 4 (List.take 6 (List.drop (i * 6) xs))) = [_] := e4
    have e5 : List.take 1 (List.drop 5 (List.take 6 (List.drop (i * 6) xs))) = [_] := e5
    have f0 : xs[i * 6 + 0]? = some (.int .i64 x0) := by simpa [List.getElem?_take, List.getElem?_drop] using one_get e0
    have f1 : xs[i * 6 + 1]? = some (.int .i64 x1) := by simpa [List.getElem?_take, List.getElem?_drop] using one_get e1
    have f2 : xs[i * 6 + 2]? = some (.int .i64 x2) := by simpa [List.getElem?_take, List.getElem?_drop] using one_get e2
    have f3 : xs[i * 6 + 3]? = some (.slice at_ ts.length ct) := by simpa [List.getElem?_take, List.getElem?_drop] using one_get e3
    have f4 : xs[i * 6 + 4]? = some (.int .i64 st) := by simpa [List.getElem?_take, List.getElem?_drop] using one_get e4
    have f5 : xs[i * 6 + 5]? = some (.slice ap p.length cp) := by simpa [List.getElem?_take, List.getElem?_drop] using one_get e5
    refine ⟨⟨⟨x0, x1, x2, ts⟩, st, p⟩, at_, ct, ap, cp, fun j u hj => ?_, hst, hts, hp, Rd.blkIn hts (by decide), hp.2.1.blkIn (by decide)⟩
    match j, hj with
    | 0, hj => cases hj; exact f0
    | 1, hj => cases hj; exact f1
    | 2, hj => cases hj; exact f2
    | 3, hj => cases hj; exact f3
    | 4, hj => cases hj; exact f4
    | 5, hj => cases hj; exact f5
    | j + 6, hj => simp [svCells] at hj
  exact ⟨os, h1.symm, xs, hr, h2⟩
end Go.Proofs.Ytkinhilkmjfjhaa

/-! ### Plain law of MarkWhole: what a Save that may be cut off, and a crash behind it, leave. -/
namespace Go.Proofs.Ytkinhilkmjfjhaa
open Go.RowKit Go.Maps Go.Sort
set_option maxRecDepth 100000

/-- The disk between two Saves: no files but a mark's; the mark's is whole and safe. -/
structure WhI (s : DS) (was : Mk) (some_ : Bool) : Prop where
  dn : s.dn = false
  ar : s.ar = 0
  nms : ∀ f ∈ s.fs, f.nm = nmM ∨ f.nm = nmF
  non : some_ = false → getF nmM s.fs = none
  one : some_ = true → mayM was = true ∧ getF nmM s.fs = some ⟨nmM, frameOf (encM was), (frameOf (encM was)).length⟩
theorem whI_new : WhI newS mk0 false := ⟨rfl, rfl, fun f hf => by simp [newS] at hf, fun _ => rfl, fun h => by cases h⟩
theorem one_name {l : List Fl} (hs : Srt l) (hn : ∀ f ∈ l, f.nm = nmM) : l = [] ∨ ∃ f, l = [f] ∧ getF nmM l = some f := by
  match l, hs, hn with
  | [], _, _ => exact .inl rfl
  | [f], _, hn => exact .inr ⟨f, rfl, by have := hn f (by simp); unfold getF; simp [this]⟩
  | f :: g :: r, hs, hn =>
    have h1 := hn f (by simp)
    have h2 := hn g (by simp)
    have := (List.pairwise_cons.1 hs).1 g (by simp)
    rw [h1, h2, bB_irrefl] at this; cases this
theorem whI_room {B : Int} {s : DS} {was : Mk} {some_ : Bool} (hok : DOk B s) (h : WhI s was some_) : (delF nmF s.fs).length < 64 ∧ tot (delF nmF s.fs) + 292 ≤ 4194304 := by
  have hn : ∀ f ∈ delF nmF s.fs, f.nm = nmM := fun f hf => by
    obtain ⟨h1, h2⟩ := mem_del.1 hf
    exact (h.nms f h1).resolve_right h2
  rcases one_name (srt_del hok.srt nmF) hn with h0 | ⟨f, h0, hg⟩
  · rw [h0]; exact ⟨by decide, by decide⟩
  · rw [get_del_other nm_ne] at hg
    cases some_ with
    | false => rw [h.non rfl] at hg; cases hg
    | true =>
      obtain ⟨hm, hg2⟩ := h.one rfl
      rw [hg] at hg2
      have hf := Option.some.inj hg2
      have hl : f.dt.length ≤ 292 := by rw [hf]; show (frameOf (encM was)).length ≤ 292; rw [frameOf_length]; have := encM_len hm; omega
      rw [h0]
      refine ⟨by simp, ?_⟩
      show f.dt.length + 0 + 292 ≤ _
      omega
theorem names_crash (picks : List Int) : ∀ (i : Nat) (l : List Fl), (crashL picks i l).map Fl.nm = l.map Fl.nm
  | _, [] => rfl
  | i, f :: r => by
    rw [crashL_cons]
    split
    · rw [List.map_cons, names_crash picks i r]; rfl
    · rw [List.map_cons, names_crash picks (i + 1) r]; rfl
theorem nms_crash {picks : List Int} {i : Nat} {l : List Fl} (h : ∀ f ∈ l, f.nm = nmM ∨ f.nm = nmF) : ∀ f ∈ crashL picks i l, f.nm = nmM ∨ f.nm = nmF := fun f hf => by
  have : f.nm ∈ (crashL picks i l).map Fl.nm := List.mem_map_of_mem hf
  rw [names_crash] at this
  obtain ⟨g, hg, e⟩ := List.mem_map.1 this
  rw [← e]; exact h g hg
theorem nms_of_del {l l' : List Fl} (hd : delF nmF l' = delF nmF l) (h : ∀ f ∈ l, f.nm = nmM ∨ f.nm = nmF) : ∀ f ∈ l', f.nm = nmM ∨ f.nm = nmF := fun f hf => by
  by_cases e : f.nm = nmF
  · exact .inr e
  · have : f ∈ delF nmF l' := mem_del.2 ⟨hf, e⟩
    rw [hd] at this
    exact h f (mem_del.1 this).1
/-- Behind a crash where the mark's file stays. -/
theorem whI_keep {s s1 : DS} {was : Mk} {some_ : Bool} (h : WhI s was some_) (picks : List Int) (hd : delF nmF s1.fs = delF nmF s.fs) : WhI (crashS s1 picks) was some_ := by
  have hg := get_of_del hd
  refine ⟨rfl, rfl, nms_crash (nms_of_del hd h.nms), fun h0 => ?_, fun h0 => ⟨(h.one h0).1, ?_⟩⟩
  · show getF nmM (crashL picks 0 s1.fs) = none
    have hn : getF nmM s1.fs = none := by rw [hg]; exact h.non h0
    rw [get_crash picks nmM 0 s1.fs (fun f hf => by rw [hn] at hf; cases hf), hn]
  · show getF nmM (crashL picks 0 s1.fs) = _
    have hn : getF nmM s1.fs = _ := hg.trans (h.one h0).2
    rw [get_crash picks nmM 0 s1.fs (fun f hf => by rw [hn] at hf; rw [← Option.some.inj hf]), hn]
theorem whI_load {s : DS} {was : Mk} {some_ : Bool} (h : WhI s was some_) : loadM s = if some_ then (was, 0) else (mk0, 8) := by
  cases some_ with
  | false => unfold loadM; rw [h.non rfl]; rfl
  | true => exact loadM_of (h.one rfl).1 (h.one rfl).2
theorem whI_arm {s : DS} {was : Mk} {some_ : Bool} (h : WhI s was some_) (n : Int) : (armS s n).dn = false ∧ (armS s n).fs = s.fs := by
  unfold armS; rw [h.dn]; exact ⟨rfl, rfl⟩
def WhEnd (s2 : DS) (was m : Mk) (some_ : Bool) (M2 : Mk) (f2 e : Int) (fell : Bool) : Prop :=
  (some_ = false ∧ f2 = 8 ∧ M2 = mk0 ∧ e = 4 ∧ fell = false ∧ mayM m = false ∧ WhI s2 was false) ∨
  (some_ = false ∧ f2 = 8 ∧ M2 = mk0 ∧ e = 12 ∧ fell = true ∧ mayM m = true ∧ WhI s2 was false) ∨
  (some_ = true ∧ f2 = 0 ∧ M2 = was ∧ e = 4 ∧ fell = false ∧ mayM m = false ∧ WhI s2 was true) ∨
  (some_ = true ∧ f2 = 0 ∧ M2 = was ∧ e = 12 ∧ fell = true ∧ mayM m = true ∧ WhI s2 was true) ∨
  (f2 = 0 ∧ M2 = m ∧ e = 0 ∧ fell = false ∧ mayM m = true ∧ WhI s2 m true)
theorem whole_step {B : Int} {s : DS} {was : Mk} {some_ : Bool} (hok : DOk B s) (h : WhI s was some_) (m : Mk) (st : Int) (picks : List Int) :
    WhEnd (crashS (saveS (armS s st) m).1 picks) was m some_ (loadM (crashS (saveS (armS s st) m).1 picks)).1 (loadM (crashS (saveS (armS s st) m).1 picks)).2 (saveS (armS s st) m).2 (saveS (armS s st) m).1.dn := by
  obtain ⟨hdn, hfs⟩ := whI_arm h st
  cases hm : mayM m with
  | false =>
    have hs : saveS (armS s st) m = (armS s st, 4) := by unfold saveS; rw [hdn, hm]; rfl
    rw [hs]
    have hk := whI_keep h picks (s1 := armS s st) (by rw [hfs])
    rw [show (armS s st, (4 : Int)).1 = armS s st from rfl, whI_load hk, hdn]
    unfold WhEnd
    cases some_ with
    | false => exact .inl ⟨rfl, rfl, rfl, rfl, rfl, hm, hk⟩
    | true => exact .inr (.inr (.inl ⟨rfl, rfl, rfl, rfl, rfl, hm, hk⟩))
  | true =>
    obtain ⟨r1, r2⟩ := whI_room hok h
    rcases save_end (s := armS s st) hdn hm (by rw [hfs]; exact r1) (by rw [hfs]; exact r2) with ⟨h1, h2, _, h4⟩ | ⟨h1, h2, _, h4⟩
    · have hk := whI_keep h picks (s1 := (saveS (armS s st) m).1) (by rw [h4, hfs])
      rw [whI_load hk, h1, h2]
      unfold WhEnd
      cases some_ with
      | false => exact .inr (.inl ⟨rfl, rfl, rfl, rfl, rfl, hm, hk⟩)
      | true => exact .inr (.inr (.inr (.inl ⟨rfl, rfl, rfl, rfl, rfl, hm, hk⟩)))
    · have hk : WhI (crashS (saveS (armS s st) m).1 picks) m true := by
        refine ⟨rfl, rfl, nms_crash fun f hf => ?_, (fun h => nomatch h), fun _ => ⟨hm, ?_⟩⟩
        · rw [h4] at hf
          rcases mem_insF.1 hf with rfl | hf
          · exact .inl rfl
          · have := mem_del.1 (mem_del.1 hf).1
            rw [hfs] at this
            exact h.nms f this.1
        · show getF nmM (crashL picks 0 _) = _
          rw [h4, get_crash picks nmM 0 _ (fun f hf => by rw [get_saved] at hf; rw [← Option.some.inj hf])]
          exact get_saved
      rw [whI_load hk, h1, h2]
      exact .inr (.inr (.inr (.inr ⟨rfl, rfl, rfl, rfl, hm, hk⟩)))
end Go.Proofs.Ytkinhilkmjfjhaa
