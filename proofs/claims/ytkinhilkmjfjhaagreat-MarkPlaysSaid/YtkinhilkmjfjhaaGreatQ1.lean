/-
  Marks in memory; May of both packages.
-/
import Derived.Test.YtkinhilkmjfjhaaGreatQ0
import Derived.Test.YtkinhilkmjfjhaaGreatE14
namespace Go.Proofs.YtkinhilkmjfjhaaGreat
open Go.RowKit Go.Maps Go.Sort
set_option maxRecDepth 100000

/-- The cells of tails. -/
def tCells (ts : List (Int × Int)) : List Value := ts.flatMap fun c => [.int .i64 c.1, .int .i64 c.2]
theorem tCells_len (ts : List (Int × Int)) : (tCells ts).length = ts.length * 2 := by
  induction ts with
  | nil => rfl
  | cons c r ih => unfold tCells at ih ⊢; rw [List.flatMap_cons, List.length_append, ih, List.length_cons]; simp; omega
theorem tCells_app (a b : List (Int × Int)) : tCells (a ++ b) = tCells a ++ tCells b := by simp [tCells]
theorem tCells_get : ∀ (ts : List (Int × Int)) (k : Nat), k < ts.length → (tCells ts)[k * 2]? = some (.int .i64 (ts.getD k (0, 0)).1) ∧ (tCells ts)[k * 2 + 1]? = some (.int .i64 (ts.getD k (0, 0)).2)
  | [], k, h => by simp at h
  | c :: r, 0, _ => ⟨rfl, rfl⟩
  | c :: r, k + 1, h => by
    have ih := tCells_get r k (by simpa using h)
    have e : tCells (c :: r) = [.int .i64 c.1, .int .i64 c.2] ++ tCells r := rfl
    rw [e, List.getElem?_append_right (by simp; omega), List.getElem?_append_right (by simp; omega)]
    refine ⟨?_, ?_⟩
    · rw [show (k + 1) * 2 - [Value.int .i64 c.1, .int .i64 c.2].length = k * 2 by simp; omega]; exact ih.1
    · rw [show (k + 1) * 2 + 1 - [Value.int .i64 c.1, .int .i64 c.2].length = k * 2 + 1 by simp; omega]; exact ih.2
theorem tCells_one (ts : List (Int × Int)) : ∀ u ∈ tCells ts, u.oneCell' = true := by
  intro u hu
  unfold tCells at hu
  rw [List.mem_flatMap] at hu
  obtain ⟨c, _, hu⟩ := hu
  simp at hu
  rcases hu with rfl | rfl <;> rfl
/-- A slice of tails that reads. -/
def RdT (w : World) (a : Option Addr) (cap : Nat) (ts : List (Int × Int)) : Prop := Rd w a ts.length cap 2 (tCells ts)
theorem RdT.below {w w' : World} {a : Option Addr} {cap : Nat} {ts : List (Int × Int)} (h : RdT w a cap ts) (hb : Below w.heap.size w w') : RdT w' a cap ts := Rd.below h hb
theorem RdT.nil (w : World) : RdT w none 0 [] := Rd.nil w 2
theorem RdT.at {w : World} {a : Option Addr} {cap : Nat} {ts : List (Int × Int)} (h : RdT w a cap ts) {k : Nat} (hk : k < ts.length) :
    ∃ b off, a = some ⟨b, off, none⟩ ∧ b < w.heap.size ∧ w.cell? ⟨b, off + k * 2, none⟩ = some (.int .i64 (ts.getD k (0, 0)).1) ∧ w.cell? ⟨b, off + k * 2 + 1, none⟩ = some (.int .i64 (ts.getD k (0, 0)).2) := by
  obtain ⟨b, off, rfl, hb, hc⟩ := Rd.at h (by omega)
  obtain ⟨h1, h2⟩ := tCells_get ts k hk
  exact ⟨b, off, rfl, hb, hc _ _ h1, by rw [Nat.add_assoc]; exact hc _ _ h2⟩
/-- A mark's value. -/
abbrev mkV (m : Mk) (v : Value) : Value := .agg #[.int .i64 m.wall, .int .i64 m.logi, .int .i64 m.node, v]
theorem mkAt (w : World) (m : Mk) (v : Value) (t : TypeId) : ∃ W, W = w.alloc (.cells #[.int .i64 m.wall, .int .i64 m.logi, .int .i64 m.node, v] t) ∧ Below w.heap.size w W ∧ W.heap.size = w.heap.size + 1 ∧ W.cell? ⟨w.heap.size, 0, none⟩ = some (.int .i64 m.wall) ∧ W.cell? ⟨w.heap.size, 1, none⟩ = some (.int .i64 m.logi) ∧
    W.cell? ⟨w.heap.size, 2, none⟩ = some (.int .i64 m.node) ∧ W.cell? ⟨w.heap.size, 3, none⟩ = some v := by
  have hg := heap_alloc_new w (.cells #[.int .i64 m.wall, .int .i64 m.logi, .int .i64 m.node, v] t)
  exact ⟨_, rfl, (Below.refl _ _).alloc (Nat.le_refl _) _, by simp, cell_of_row _ _ 0 _ _ _ hg, cell_of_row _ _ 1 _ _ _ hg, cell_of_row _ _ 2 _ _ _ hg, cell_of_row _ _ 3 _ _ _ hg⟩
theorem curAt (w : World) (x y : Int) (t : TypeId) : ∃ W, W = w.alloc (.cells #[.int .i64 x, .int .i64 y] t) ∧ Below w.heap.size w W ∧ W.heap.size = w.heap.size + 1 ∧ W.cell? ⟨w.heap.size, 0, none⟩ = some (.int .i64 x) ∧ W.cell? ⟨w.heap.size, 1, none⟩ = some (.int .i64 y) := by
  have hg := heap_alloc_new w (.cells #[.int .i64 x, .int .i64 y] t)
  exact ⟨_, rfl, (Below.refl _ _).alloc (Nat.le_refl _) _, by simp, cell_of_row _ _ 0 _ _ _ hg, cell_of_row _ _ 1 _ _ _ hg⟩
theorem stAt (w : World) (m : Mk) (t : TypeId) : ∃ W, W = w.alloc (.cells #[.int .i64 m.wall, .int .i64 m.logi, .int .i64 m.node] t) ∧ Below w.heap.size w W ∧ W.cell? ⟨w.heap.size, 0, none⟩ = some (.int .i64 m.wall) ∧ W.cell? ⟨w.heap.size, 1, none⟩ = some (.int .i64 m.logi) ∧
    W.cell? ⟨w.heap.size, 2, none⟩ = some (.int .i64 m.node) := by
  have hg := heap_alloc_new w (.cells #[.int .i64 m.wall, .int .i64 m.logi, .int .i64 m.node] t)
  exact ⟨_, rfl, (Below.refl _ _).alloc (Nat.le_refl _) _, cell_of_row _ _ 0 _ _ _ hg, cell_of_row _ _ 1 _ _ _ hg, cell_of_row _ _ 2 _ _ _ hg⟩

/-! ### a stamp that may be -/
theorem hi_cases (m : Mk) : (decide (0 ≤ m.wall) = false ∧ hiB m = false) ∨ (decide (0 ≤ m.wall) = true ∧ decide (m.wall ≤ 281474976710656) = false ∧ hiB m = false) ∨
    (decide (0 ≤ m.wall) = true ∧ decide (m.wall ≤ 281474976710656) = true ∧ decide (0 ≤ m.logi) = false ∧ hiB m = false) ∨
    (decide (0 ≤ m.wall) = true ∧ decide (m.wall ≤ 281474976710656) = true ∧ decide (0 ≤ m.logi) = true ∧ decide (m.logi ≤ 65535) = false ∧ hiB m = false) ∨
    (decide (0 ≤ m.wall) = true ∧ decide (m.wall ≤ 281474976710656) = true ∧ decide (0 ≤ m.logi) = true ∧ decide (m.logi ≤ 65535) = true ∧ decide (0 ≤ m.node) = false ∧ hiB m = false) ∨
    (decide (0 ≤ m.wall) = true ∧ decide (m.wall ≤ 281474976710656) = true ∧ decide (0 ≤ m.logi) = true ∧ decide (m.logi ≤ 65535) = true ∧ decide (0 ≤ m.node) = true ∧ decide (m.node ≤ 63) = hiB m) := by
  unfold hiB
  by_cases h1 : 0 ≤ m.wall <;> by_cases h2 : m.wall ≤ 281474976710656 <;> by_cases h3 : 0 ≤ m.logi <;> by_cases h4 : m.logi ≤ 65535 <;> by_cases h5 : 0 ≤ m.node <;> simp [h1, h2, h3, h4, h5]
theorem hi_any (m : Mk) (w : World) : Calls Tryz.prog 37 #[.agg #[.int .i64 m.wall, .int .i64 m.logi, .int .i64 m.node]] w fun e w' => e = .returned (.bool (hiB m)) ∧ Below w.heap.size w w' := by
  obtain ⟨W, hW, hbw, c0, c1, c2⟩ := stAt w m 32
  have HB := Lib.hid hbw
  subst hW
  rcases hi_cases m with ⟨d1, hr⟩ | ⟨d1, d2, hr⟩ | ⟨d1, d2, d3, hr⟩ | ⟨d1, d2, d3, d4, hr⟩ | ⟨d1, d2, d3, d4, d5, hr⟩ | ⟨d1, d2, d3, d4, d5, hr⟩
  all_goals
    go_enter Tryz.func37, Tryz.ntmps37
    go_wp2
    go_ret
    exact ⟨by first | (rw [hr]; rfl) | (rw [← hr]; rfl), HB.out⟩
theorem rhi_any (m : Mk) (w : World) : Calls Tryz.prog 38 #[.agg #[.int .i64 m.wall, .int .i64 m.logi, .int .i64 m.node]] w fun e w' => e = .returned (.bool (hiB m)) ∧ Below w.heap.size w w' := by
  obtain ⟨W, hW, hbw, c0, c1, c2⟩ := stAt w m 32
  have HB := Lib.hid hbw
  subst hW
  rcases hi_cases m with ⟨d1, hr⟩ | ⟨d1, d2, hr⟩ | ⟨d1, d2, d3, hr⟩ | ⟨d1, d2, d3, d4, hr⟩ | ⟨d1, d2, d3, d4, d5, hr⟩ | ⟨d1, d2, d3, d4, d5, hr⟩
  all_goals
    go_enter Tryz.func38, Tryz.ntmps38
    go_wp2
    go_ret
    exact ⟨by first | (rw [hr]; rfl) | (rw [← hr]; rfl), HB.out⟩
end Go.Proofs.YtkinhilkmjfjhaaGreat
