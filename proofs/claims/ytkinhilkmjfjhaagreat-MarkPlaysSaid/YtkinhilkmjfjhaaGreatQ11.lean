/-
  A mark turned into the document's; lists of marks to save.
-/
import Derived.Test.YtkinhilkmjfjhaaGreatQ9
import Derived.Test.YtkinhilkmjfjhaaGreatE20
namespace Go.Proofs.YtkinhilkmjfjhaaGreat
open Go.RowKit Go.Maps Go.Sort
set_option maxRecDepth 100000
attribute [local go_sem] bs_size bs_toList

theorem results_cell_one {fn : Func} {p : Tmp} {ty : TypeId} (h : fn.results = #[.cell p ty]) (tmps : Array Value) (P : Program) (w : World) :
    (results fn tmps).run P w = ((asAddr (tmps.getD p undef)).run P w).andThen fun a w₁ => (loadVar ty a).run P w₁ := by
  simp only [results, h]
  simp [Sem.run_bind, Result.andThen]
/-- The new mark while its tails are laid behind one another. -/
structure MkAt (q : Nat) (W : World) (m : Mk) (v : Value) (ts : List (Int × Int)) (X : World) : Prop where
  low : Below q W X
  row : X.heap[q]? = some (.cells #[.int .i64 m.wall, .int .i64 m.logi, .int .i64 m.node, v] 47 (0, 0))
  own : OwnT X (q + 1) 77 v ts
theorem MkAt.lt {q : Nat} {W : World} {m : Mk} {v : Value} {ts : List (Int × Int)} {X : World} (h : MkAt q W m v ts X) : q < X.heap.size := (Array.getElem?_eq_some_iff.1 h.row).1
theorem MkAt.new {q : Nat} {W : World} {m : Mk} {v : Value} {ts : List (Int × Int)} {X X' : World} (h : MkAt q W m v ts X) (hb : Below X.heap.size X X') : MkAt q W m v ts X' :=
  ⟨h.low.trans (hb.mono (Nat.le_of_lt h.lt)), (hb.block q h.lt).trans h.row, OwnT.below h.own (Nat.le_refl _) hb⟩
theorem MkAt.app {q : Nat} {W : World} {m : Mk} {v v' : Value} {ts ts' : List (Int × Int)} {X X1 X' : World} (h : MkAt q W m v ts X) (hb : Below X.heap.size X X1) (hg : X1.grownBy X' v.ownBlock) (ho : OwnT X' (q + 1) 77 v' ts') :
    MkAt q W m v' ts' (X'.setCell ⟨q, 3, none⟩ v') ∧ X'.cell? ⟨q, 3, none⟩ = some v ∧ X'.frozen? ⟨q, 3, none⟩ = false ∧ q < X'.heap.size := by
  have h1 := h.new hb
  have hf : Fr (fun k => v.ownBlock = some k) X1 X' := (Fr.refl _ X1).grown hg fun k _ e => e
  have hov : ∀ k, v.ownBlock = some k → q + 1 ≤ k := fun k hk => (World.ownsRow.lt h1.own k hk).1
  have hq : X'.heap[q]? = _ := (hf.block q h1.lt fun e => by have := hov q e; omega).trans h1.row
  have hs : Fr (fun k => k = q) X' (X'.setCell ⟨q, 3, none⟩ v') := (Fr.refl (fun k => k = q) X').setCell (p := ⟨q, 3, none⟩) (fun _ => rfl) _
  refine ⟨⟨(h1.low.trans (hf.below (Nat.le_of_lt h1.lt) fun k hk e => by have := hov k e; omega)).setCell (p := ⟨q, 3, none⟩) (Nat.le_refl _) _, row_set (i := 3) hq rfl, ownsRow_keep ho fun k hk => hs.block k (World.ownsRow.lt ho k hk).2 fun e => ?_⟩, cell_of_row _ _ 3 _ _ _ hq, frozen_of_row _ _ 3 _ _ hq, (Array.getElem?_eq_some_iff.1 hq).1⟩
  have := (World.ownsRow.lt ho k hk).1; omega
set_option maxHeartbeats 4000000 in
theorem mkRef_any (m : Mk) (a : Option Addr) (cap : Nat) (w : World) (h : RdT w a cap m.ts) (hl : m.ts.length ≤ 200) :
    Calls Tryz.prog 9 #[mkV m (.slice a m.ts.length cap)] w fun e w' => ∃ v, e = .returned (mkV m v) ∧ OwnT w' w.heap.size 77 v m.ts ∧ Below w.heap.size w w' := by
  obtain ⟨n, hn⟩ : ∃ n, m.ts.length = n := ⟨_, rfl⟩
  rw [hn] at hl ⊢
  have hr1 := heap_alloc_new w (.cells #[.int .i64 m.wall, .int .i64 m.logi, .int .i64 m.node, .slice a n cap] 35)
  have hb1 : Below w.heap.size w (w.alloc (.cells #[.int .i64 m.wall, .int .i64 m.logi, .int .i64 m.node, .slice a n cap] 35)) := (Below.refl _ _).alloc (Nat.le_refl _) _
  obtain ⟨W1, hW1⟩ : ∃ W1, w.alloc (.cells #[.int .i64 m.wall, .int .i64 m.logi, .int .i64 m.node, .slice a n cap] 35) = W1 := ⟨_, rfl⟩
  rw [hW1] at hr1 hb1
  have hs1 : W1.heap.size = w.heap.size + 1 := by rw [← hW1]; simp
  have hr2 := heap_alloc_new W1 (.cells #[.int .i64 0, .int .i64 0, .int .i64 0, .slice none 0 0] 47)
  have hb2 : Below W1.heap.size W1 (W1.alloc (.cells #[.int .i64 0, .int .i64 0, .int .i64 0, .slice none 0 0] 47)) := (Below.refl _ _).alloc (Nat.le_refl _) _
  obtain ⟨W2, hW2⟩ : ∃ W2, W1.alloc (.cells #[.int .i64 0, .int .i64 0, .int .i64 0, .slice none 0 0] 47) = W2 := ⟨_, rfl⟩
  rw [hW2] at hr2 hb2
  have hs2 : W2.heap.size = w.heap.size + 2 := by rw [← hW2]; simp [hs1]
  have hr12 := (hb2.block w.heap.size (by omega)).trans hr1
  have c0 := cell_of_row _ _ 0 _ _ _ hr12
  have c1 := cell_of_row _ _ 1 _ _ _ hr12
  have c2 := cell_of_row _ _ 2 _ _ _ hr12
  have c3 := cell_of_row _ _ 3 _ _ _ hr12
  have hb12 : Below w.heap.size w W2 := hb1.trans (hb2.mono hb1.size)
  have HB := Lib.hid hb12
  have HR := Lib.hid (h.below hb12)
  have HN := Lib.hid hn
  have HR2 := Lib.hid hr2
  have HR1 := Lib.hid hr12
  have HW1 := Lib.hid hW1
  have HW2 := Lib.hid hW2
  have HS1 := Lib.hid hs1
  have HS2 := Lib.hid hs2
  clear h hn hr1 hb1 hr2 hb2 hr12 hb12 hs1 hs2
  go_enter Tryz.func9, Tryz.ntmps9
  go_wp2
  have hat : MkAt W2.heap.size W2 m (.slice none 0 0) [] (W2.alloc (.cells #[.int .i64 m.wall, .int .i64 m.logi, .int .i64 m.node, .slice none 0 0] 47)) := ⟨(Below.refl _ _).alloc (Nat.le_refl _) _, heap_alloc_new _ _, OwnT.nil _ _ _⟩
  obtain ⟨W3, hW3⟩ : ∃ W3, W2.alloc (.cells #[.int .i64 m.wall, .int .i64 m.logi, .int .i64 m.node, .slice none 0 0] 47) = W3 := ⟨_, rfl⟩
  have hq : ∃ q, W2.heap.size = q := ⟨_, rfl⟩
  obtain ⟨q, hq⟩ := hq
  rw [hW3, hq] at hat ⊢
  have HAT := Lib.hid hat
  have HQ := Lib.hid hq
  clear hat hW3 c0 c1 c2 c3 hW1 hW2 hq
  go_loopw [4] (fun i wr => ∃ (k : Nat) (v : Value), k ≤ n ∧ i = .int .i64 k ∧ Hid (MkAt q W2 m v (m.ts.take k) wr)) (fun i _ => n - (intOf i).toNat)
  case atStart => exact ⟨0, _, Nat.zero_le _, rfl, HAT.out⟩
  case round =>
    clear HAT
    obtain ⟨k, v, hk, rfl, HA⟩ := hrel
    have hb2r : Below W2.heap.size W2 wr := by rw [HQ.out]; exact HA.out.low
    have hr1 := (hb2r.block w.heap.size (Array.getElem?_eq_some_iff.1 HR1.out).1).trans HR1.out
    have g3 := cell_of_row _ _ 3 _ _ _ hr1
    have HBW := Lib.hid hb2r
    clear hb2r hr1
    by_cases hlt : k < n
    · obtain ⟨b, off, rfl, hbl, q0, q1⟩ := (HR.out.below HBW.out).at (k := k) (by rw [HN.out]; exact hlt)
      have hg : m.ts[k]? = some (m.ts.getD k (0, 0)) := by simp [List.getD, show k < m.ts.length by rw [HN.out]; exact hlt]
      obtain ⟨x, hx⟩ : ∃ x, (m.ts.getD k (0, 0)).1 = x := ⟨_, rfl⟩
      obtain ⟨y, hy⟩ : ∃ y, (m.ts.getD k (0, 0)).2 = y := ⟨_, rfl⟩
      have hnx : m.ts.take (k + 1) = m.ts.take k ++ [(x, y)] := by
        rw [List.take_add_one, hg, ← hx, ← hy]; rfl
      rw [hx] at q0
      rw [hy] at q1
      have htl : (m.ts.take k).length = k := by rw [List.length_take, HN.out]; omega
      have HTL := Lib.hid htl
      have HNX := Lib.hid hnx
      have hn3 := cell_of_row _ _ 3 _ _ _ HA.out.row
      obtain ⟨av, cv, rfl, hav⟩ := HA.out.own.rd
      rw [htl] at hn3
      have HAV : Hid (OwnT wr (q + 1) 77 (.slice av k cv) (m.ts.take k)) := by have := HA.out.own; rw [htl] at this; exact this
      have HA2 : Hid (MkAt q W2 m (.slice av k cv) (m.ts.take k) wr) := by have := HA.out; rw [htl] at this; exact this
      clear hx hy hg hbl htl hav hnx HA
      go_wp2_with fail
      refine wp_region_ht 16 (fun W => W.cell? ⟨q, 3, none⟩ = some (.slice av k cv) ∧ W.cell? ⟨w.heap.size, 3, none⟩ = some (.slice (some ⟨b, off, none⟩) n cap) ∧ W.cell? ⟨b, off + k * 2, none⟩ = some (.int .i64 x) ∧ W.cell? ⟨b, off + k * 2 + 1, none⟩ = some (.int .i64 y)) (by kernel_rfl) (by kernel_rfl) ?_ (fun hHeld => ?_)
      · exact ⟨hn3, g3, q0, q1⟩
      try simp only [Act.put, List.setIfInBounds_toArray, List.set_cons_zero, List.set_cons_succ]
      refine wpHT_takeD (i := 0) (d := 15) (v := ?_) (by kernel_rfl) rfl rfl (by decide) (by kernel_rfl) (by kernel_rfl) (fun _ _ _ h => h) (Or.inl ⟨by kernel_rfl, ?_⟩) (by assumption) ?_
      rotate_left
      · intro w hSw; (try dsimp only at hSw); go_simp; (try with_reducible rfl)
      try simp only [Act.put, List.setIfInBounds_toArray, List.set_cons_zero, List.set_cons_succ]
      refine wpHT_takeD (i := 1) (d := 16) (v := ?_) (by kernel_rfl) rfl rfl (by decide) (by kernel_rfl) (by kernel_rfl) (fun _ _ _ h => h) (Or.inl ⟨by kernel_rfl, ?_⟩) (by assumption) ?_
      rotate_left
      · intro w hSw; (try dsimp only at hSw); go_simp; (try with_reducible rfl)
      try simp only [Act.put, List.setIfInBounds_toArray, List.set_cons_zero, List.set_cons_succ]
      refine wpHT_takeD (i := 2) (d := 17) (v := ?_) (by kernel_rfl) rfl rfl (by decide) (by kernel_rfl) (by kernel_rfl) (fun _ _ _ h => h) (Or.inl ⟨by kernel_rfl, ?_⟩) (by assumption) ?_
      rotate_left
      · intro w hSw; (try dsimp only at hSw); go_simp; (try with_reducible rfl)
      try simp only [Act.put, List.setIfInBounds_toArray, List.set_cons_zero, List.set_cons_succ]
      refine wpHT_takeD (i := 3) (d := 18) (v := ?_) (by kernel_rfl) rfl rfl (by decide) (by kernel_rfl) (by kernel_rfl) (fun _ _ _ h => h) (Or.inl ⟨by kernel_rfl, ?_⟩) (by assumption) ?_
      rotate_left
      · intro w hSw; (try dsimp only at hSw); go_simp; (try with_reducible rfl)
      try simp only [Act.put, List.setIfInBounds_toArray, List.set_cons_zero, List.set_cons_succ]
      refine wpHT_takeD (i := 4) (d := 19) (v := ?_) (by kernel_rfl) rfl rfl (by decide) (by kernel_rfl) (by kernel_rfl) (fun _ _ _ h => h) (Or.inl ⟨by kernel_rfl, ?_⟩) (by assumption) ?_
      rotate_left
      · intro w hSw; (try dsimp only at hSw); go_simp; (try with_reducible rfl)
      try simp only [Act.put, List.setIfInBounds_toArray, List.set_cons_zero, List.set_cons_succ]
      refine wpHT_takeD (i := 5) (d := 20) (v := ?_) (by kernel_rfl) rfl rfl (by decide) (by kernel_rfl) (by kernel_rfl) (fun _ _ _ h => h) (Or.inl ⟨by kernel_rfl, ?_⟩) (by assumption) ?_
      rotate_left
      · intro w hSw; (try dsimp only at hSw); go_simp; (try with_reducible rfl)
      try simp only [Act.put, List.setIfInBounds_toArray, List.set_cons_zero, List.set_cons_succ]
      refine wpHT_takeD (i := 6) (d := 21) (v := ?_) (by kernel_rfl) rfl rfl (by decide) (by kernel_rfl) (by kernel_rfl) (fun _ _ _ h => h) (Or.inl ⟨by kernel_rfl, ?_⟩) (by assumption) ?_
      rotate_left
      · intro w hSw; (try dsimp only at hSw); go_simp; (try with_reducible rfl)
      try simp only [Act.put, List.setIfInBounds_toArray, List.set_cons_zero, List.set_cons_succ]
      refine wpHT_takeD (i := 7) (d := 22) (v := ?_) (by kernel_rfl) rfl rfl (by decide) (by kernel_rfl) (by kernel_rfl) (fun _ _ _ h => h) (Or.inl ⟨by kernel_rfl, ?_⟩) (by assumption) ?_
      rotate_left
      · intro w hSw; (try dsimp only at hSw); go_simp; (try with_reducible rfl)
      try simp only [Act.put, List.setIfInBounds_toArray, List.set_cons_zero, List.set_cons_succ]
      refine wpHT_takeD (i := 8) (d := 23) (v := ?_) (by kernel_rfl) rfl rfl (by decide) (by kernel_rfl) (by kernel_rfl) (fun _ _ _ h => h) (Or.inl ⟨by kernel_rfl, ?_⟩) (by assumption) ?_
      rotate_left
      · intro w hSw; (try dsimp only at hSw); go_simp; (try with_reducible rfl)
      try simp only [Act.put, List.setIfInBounds_toArray, List.set_cons_zero, List.set_cons_succ]
      refine wpHT_takeD (i := 9) (d := 24) (v := ?_) (by kernel_rfl) rfl rfl (by decide) (by kernel_rfl) (by kernel_rfl) (fun _ _ _ h => h) (Or.inl ⟨by kernel_rfl, ?_⟩) (by assumption) ?_
      rotate_left
      · intro w hSw; (try dsimp only at hSw); go_simp; (try with_reducible rfl)
      try simp only [Act.put, List.setIfInBounds_toArray, List.set_cons_zero, List.set_cons_succ]
      refine wpHT_takeD (i := 10) (d := 25) (v := ?_) (by kernel_rfl) rfl rfl (by decide) (by kernel_rfl) (by kernel_rfl) (fun _ _ _ h => h) (Or.inl ⟨by kernel_rfl, ?_⟩) (by assumption) ?_
      rotate_left
      · intro w hSw; (try dsimp only at hSw); go_simp; (try with_reducible rfl)
      try simp only [Act.put, List.setIfInBounds_toArray, List.set_cons_zero, List.set_cons_succ]
      refine wpHT_takeD (i := 11) (d := 26) (v := ?_) (by kernel_rfl) rfl rfl (by decide) (by kernel_rfl) (by kernel_rfl) (fun _ _ _ h => h) (Or.inl ⟨by kernel_rfl, ?_⟩) (by assumption) ?_
      rotate_left
      · intro w hSw; (try dsimp only at hSw); go_simp; (try with_reducible rfl)
      try simp only [Act.put, List.setIfInBounds_toArray, List.set_cons_zero, List.set_cons_succ]
      refine wpHT_takeD (i := 12) (d := 27) (v := ?_) (by kernel_rfl) rfl rfl (by decide) (by kernel_rfl) (by kernel_rfl) (fun _ _ _ h => h) (Or.inl ⟨by kernel_rfl, ?_⟩) (by assumption) ?_
      rotate_left
      · intro w hSw; (try dsimp only at hSw); go_simp; (try with_reducible rfl)
      try simp only [Act.put, List.setIfInBounds_toArray, List.set_cons_zero, List.set_cons_succ]
      refine wpHT_takeD (i := 13) (d := 28) (v := ?_) (by kernel_rfl) rfl rfl (by decide) (by kernel_rfl) (by kernel_rfl) (fun _ _ _ h => h) (Or.inl ⟨by kernel_rfl, ?_⟩) (by assumption) ?_
      rotate_left
      · intro w hSw; (try dsimp only at hSw); go_simp; (try with_reducible rfl)
      try simp only [Act.put, List.setIfInBounds_toArray, List.set_cons_zero, List.set_cons_succ]
      refine wpHT_takeD (i := 14) (d := 29) (v := ?_) (by kernel_rfl) rfl rfl (by decide) (by kernel_rfl) (by kernel_rfl) (fun _ _ _ h => h) (Or.inl ⟨by kernel_rfl, ?_⟩) (by assumption) ?_
      rotate_left
      · intro w hSw; (try dsimp only at hSw); go_simp; (try with_reducible rfl)
      try simp only [Act.put, List.setIfInBounds_toArray, List.set_cons_zero, List.set_cons_succ]
      refine wpHT_one (i := 15) (by kernel_rfl) rfl (by decide) (fun K hK => ?_)
      go_simp
      refine hK.out _ _ ?_ (fun hHeld => ?_)
      · exact ⟨cell_alloc_keep (w := wr.drew) hn3, cell_alloc_keep (w := wr.drew) g3, cell_alloc_keep (w := wr.drew) q0, cell_alloc_keep (w := wr.drew) q1⟩
      clear hK K
      try simp only [Act.put, List.setIfInBounds_toArray, List.set_cons_zero, List.set_cons_succ]
      refine wpHT_done (by kernel_rfl) ?_
      simp only [List.drop_succ_cons, List.drop_zero]
      clear hHeld hn3 g3 q0 q1
      have hba : Below wr.heap.size wr (wr.drew.alloc (.cells #[.int .i64 x, .int .i64 y] 77)) := (Below.refl _ wr).drew.alloc (Nat.le_refl _) _
      have hqa : q + 1 ≤ (wr.drew.alloc (.cells #[.int .i64 x, .int .i64 y] 77)).heap.size := Nat.le_trans HA2.out.lt hba.size
      have HBA := Lib.hid hba
      clear hba
      go_wp2_with (at_builtin; refine wpList_app rSTc rfl (.tmp 16) (.tmp 30) rfl (q + 1) rfl (HA2.out.new HBA.out).own rfl (Rd.one2 wr.drew _ _ _) (by simp; exact ⟨rfl, rfl⟩) (by have := HTL.out; omega) (by have := HTL.out; unfold maxLen; omega) hqa ?_)
      intro v' w5 ho5 _ hg5
      have ho5 : OwnT w5 (q + 1) 77 v' (m.ts.take k ++ [(x, y)]) := by
        unfold OwnT
        rw [tCells_app, List.length_append, List.length_take]
        exact ho5
      obtain ⟨hnew, m0, m1, m2⟩ := HA2.out.app HBA.out hg5 ho5
      have HNEW := Lib.hid hnew
      obtain ⟨bv, dv, hv, hbv⟩ := ho5.rd
      rw [List.length_append, HTL.out] at hv
      have hv : v' = .slice bv (k + 1) dv := hv
      subst hv
      clear ho5 hg5 hqa hbv hnew
      go_wp2_with fail
      go_roundw
      case rel => exact ⟨k + 1, _, by omega, by go_num, by rw [HNX.out]; exact HNEW.out⟩
      case measure => simp [intOf]; omega
    · obtain rfl : k = n := by omega
      have htl : m.ts.take k = m.ts := by rw [← HN.out, List.take_length]
      rw [htl] at HA
      obtain ⟨av, cv, rfl, hav⟩ := HA.out.own.rd
      clear hav
      have hq0 := HA.out.row
      have q0 := cell_of_row _ _ 0 _ _ _ hq0
      have q1 := cell_of_row _ _ 1 _ _ _ hq0
      have q2 := cell_of_row _ _ 2 _ _ _ hq0
      have q3 := cell_of_row _ _ 3 _ _ _ hq0
      have hz := (HBW.out.block W1.heap.size (Array.getElem?_eq_some_iff.1 HR2.out).1).trans HR2.out
      have HZ := Lib.hid hz
      have z0 := cell_of_row _ _ 0 _ _ _ hz
      have z1 := cell_of_row _ _ 1 _ _ _ hz
      have z2 := cell_of_row _ _ 2 _ _ _ hz
      have z3 := cell_of_row _ _ 3 _ _ _ hz
      have y0 := frozen_of_row _ _ 0 _ _ hz
      have y1 := frozen_of_row _ _ 1 _ _ hz
      have y2 := frozen_of_row _ _ 2 _ _ hz
      have y3 := frozen_of_row _ _ 3 _ _ hz
      have hzl := (Array.getElem?_eq_some_iff.1 hz).1
      clear hz hq0 htl
      go_wp2_with fail
      have r4 := row_set4 HZ.out (.int .i64 m.wall) (.int .i64 m.logi) (.int .i64 m.node) (.slice av m.ts.length cv)
      (try simp only [Exit.inBlock, Exit.then])
      refine bodyPost_ret (v := mkV m (.slice av m.ts.length cv)) ?_ rfl ?_
      · rw [results_cell_one rfl]
        simp [asAddr, Result.andThen, rload_row r4]
      · have hs1 := HS1.out
        have hs2 := HS2.out
        have hq' := HQ.out
        refine ⟨_, rfl, ownsRow_keep (ownsRow_mono HA.out.own (by omega)) fun j hj => ?_, below_set4 (HB.out.trans (HBW.out.mono HB.out.size)) (by omega) _ _ _ _⟩
        exact same_set4 (fun e => by have := (World.ownsRow.lt HA.out.own j hj).1; omega) _ _ _ _

/-! ### marks to save -/
structure SvV where
  m : Mk
  st : Int
  p : List Int
def svCells (s : SvV) (a : Option Addr) (c : Nat) (ap : Option Addr) (cp : Nat) : List Value := [.int .i64 s.m.wall, .int .i64 s.m.logi, .int .i64 s.m.node, .slice a s.m.ts.length c, .int .i64 s.st, .slice ap s.p.length cp]
def SvRd (w : World) (s : SvV) (a : Option Addr) (c : Nat) (ap : Option Addr) (cp : Nat) : Prop :=
  (-9223372036854775808 ≤ s.st ∧ s.st ≤ 9223372036854775807) ∧ RdT w a c s.m.ts ∧ RdI w ap s.p.length cp s.p ∧ BlkIn a s.m.ts.length (fun b => b < w.heap.size) ∧ BlkIn ap s.p.length (fun b => b < w.heap.size)
def RdSv (w : World) (a : Option Addr) (n cap : Nat) (l : List SvV) : Prop :=
  n = l.length ∧ ∃ xs, Rd w a n cap 6 xs ∧ ∀ (i : Nat) (s : SvV), l[i]? = some s → ∃ a c ap cp, (∀ (j : Nat) (u : Value), (svCells s a c ap cp)[j]? = some u → xs[i * 6 + j]? = some u) ∧ SvRd w s a c ap cp
theorem RdSv.at {w W : World} (hb : Below w.heap.size w W) {a : Option Addr} {n cap : Nat} {l : List SvV} (h : RdSv w a n cap l) {k : Nat} {s : SvV} (hs : l[k]? = some s) :
    ∃ b off at_ c ap cp, a = some ⟨b, off, none⟩ ∧ b < w.heap.size ∧ RdT W at_ c s.m.ts ∧ RdI W ap s.p.length cp s.p ∧ BlkIn at_ s.m.ts.length (fun b => b < w.heap.size) ∧ BlkIn ap s.p.length (fun b => b < w.heap.size) ∧ (-9223372036854775808 ≤ s.st ∧ s.st ≤ 9223372036854775807) ∧
      W.cell? ⟨b, off + k * 6, none⟩ = some (.int .i64 s.m.wall) ∧ W.cell? ⟨b, off + k * 6 + 1, none⟩ = some (.int .i64 s.m.logi) ∧ W.cell? ⟨b, off + k * 6 + 2, none⟩ = some (.int .i64 s.m.node) ∧
      W.cell? ⟨b, off + k * 6 + 3, none⟩ = some (.slice at_ s.m.ts.length c) ∧ W.cell? ⟨b, off + k * 6 + 4, none⟩ = some (.int .i64 s.st) ∧ W.cell? ⟨b, off + k * 6 + 5, none⟩ = some (.slice ap s.p.length cp) := by
  obtain ⟨rfl, xs, hr, h2⟩ := h
  have hk : k < l.length := (List.getElem?_eq_some_iff.1 hs).1
  obtain ⟨at_, c, ap, cp, hc, h1, h3, h4, h5, h6⟩ := h2 k s hs
  obtain ⟨b, off, rfl, hbl, hcell⟩ := (hr.below hb).at (by omega)
  have hbl' : b < w.heap.size := by
    obtain ⟨b', off', e, hb', _⟩ := hr.at (by omega)
    cases e; exact hb'
  refine ⟨b, off, at_, c, ap, cp, rfl, hbl', h3.below hb, h4.below hb, h5, h6, h1, hcell _ _ (hc 0 _ rfl), ?_, ?_, ?_, ?_, ?_⟩
  · rw [Nat.add_assoc]; exact hcell _ _ (hc 1 _ rfl)
  · rw [Nat.add_assoc]; exact hcell _ _ (hc 2 _ rfl)
  · rw [Nat.add_assoc]; exact hcell _ _ (hc 3 _ rfl)
  · rw [Nat.add_assoc]; exact hcell _ _ (hc 4 _ rfl)
  · rw [Nat.add_assoc]; exact hcell _ _ (hc 5 _ rfl)
end Go.Proofs.YtkinhilkmjfjhaaGreat
