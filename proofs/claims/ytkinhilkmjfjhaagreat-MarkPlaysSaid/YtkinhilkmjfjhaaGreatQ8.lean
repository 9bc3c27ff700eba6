/-
  The laws' same; the chapter's examples.
-/
import Derived.Test.YtkinhilkmjfjhaaGreatQ7
namespace Go.Proofs.YtkinhilkmjfjhaaGreat
open Go.RowKit Go.Maps Go.Sort
set_option maxRecDepth 100000
attribute [local go_sem] bs_size bs_toList

def hiEq (m m' : Mk) : Bool := m.wall == m'.wall && (m.logi == m'.logi && m.node == m'.node)
def sameB (m m' : Mk) : Bool := hiEq m m' && m.ts == m'.ts
theorem sameB_iff {m m' : Mk} : sameB m m' = true ↔ m = m' := by
  obtain ⟨a, b, c, d⟩ := m
  obtain ⟨a', b', c', d'⟩ := m'
  unfold sameB hiEq
  simp only [Bool.and_eq_true, beq_iff_eq, Mk.mk.injEq]
  constructor
  · rintro ⟨⟨h1, h2, h3⟩, h4⟩; exact ⟨h1, h2, h3, h4⟩
  · rintro ⟨h1, h2, h3, h4⟩; exact ⟨⟨h1, h2, h3⟩, h4⟩
theorem sameB_refl (m : Mk) : sameB m m = true := sameB_iff.2 rfl
theorem ts_take_next {ts ts' : List (Int × Int)} {k : Nat} (h : ts.take k = ts'.take k) (hk : k < ts.length) (hk' : k < ts'.length) (h1 : (ts.getD k (0, 0)).1 = (ts'.getD k (0, 0)).1) (h2 : (ts.getD k (0, 0)).2 = (ts'.getD k (0, 0)).2) : ts.take (k + 1) = ts'.take (k + 1) := by
  rw [List.take_succ_eq_append_getElem hk, List.take_succ_eq_append_getElem hk', h]
  simp only [List.getD, List.getElem?_eq_getElem hk, List.getElem?_eq_getElem hk', Option.getD_some] at h1 h2
  rw [Prod.ext h1 h2]
theorem ts_differ {ts ts' : List (Int × Int)} {k : Nat} (h : (ts.getD k (0, 0)).1 ≠ (ts'.getD k (0, 0)).1 ∨ (ts.getD k (0, 0)).2 ≠ (ts'.getD k (0, 0)).2) : (ts == ts') = false := by
  rw [beq_eq_false_iff_ne]
  rintro rfl
  rcases h with h | h <;> exact h rfl
set_option maxHeartbeats 4000000 in
theorem same_any_ (x y z : Int) (ts : List (Int × Int)) (x' y' z' : Int) (ts' : List (Int × Int)) (a a' : Option Addr) (cap cap' : Nat) (w : World) (h : RdT w a cap ts) (h' : RdT w a' cap' ts') :
    Calls Tryz.prog 16 #[mkV ⟨x, y, z, ts⟩ (.slice a ts.length cap), mkV ⟨x', y', z', ts'⟩ (.slice a' ts'.length cap')] w fun e w' => e = .returned (.bool (sameB ⟨x, y, z, ts⟩ ⟨x', y', z', ts'⟩)) ∧ Below w.heap.size w w' := by
  obtain ⟨n, hn⟩ : ∃ n, ts.length = n := ⟨_, rfl⟩
  obtain ⟨n', hn'⟩ : ∃ n', ts'.length = n' := ⟨_, rfl⟩
  have hn6 : n ≤ 9223372036854775807 := by rw [← hn]; exact Nat.le_trans h.1 h.2.1
  rw [hn, hn']
  obtain ⟨W, hW, hbw, hsz, c0, c1, c2, c3⟩ := mkAt w ⟨x, y, z, ts⟩ (.slice a n cap) 35
  obtain ⟨X, hX, hbx, hsx, d0, d1, d2, d3⟩ := mkAt W ⟨x', y', z', ts'⟩ (.slice a' n' cap') 47
  have hlt0 : w.heap.size < W.heap.size := by omega
  have e0 := (hbx.cell (p := ⟨w.heap.size, 0, none⟩) hlt0).trans c0
  have e1 := (hbx.cell (p := ⟨w.heap.size, 1, none⟩) hlt0).trans c1
  have e2 := (hbx.cell (p := ⟨w.heap.size, 2, none⟩) hlt0).trans c2
  have e3 := (hbx.cell (p := ⟨w.heap.size, 3, none⟩) hlt0).trans c3
  have hbb : Below w.heap.size w X := hbw.trans (hbx.mono hbw.size)
  have HB := Lib.hid hbb
  have HR := Lib.hid (h.below hbb)
  have HR' := Lib.hid (h'.below hbb)
  have HN := Lib.hid hn
  have HN' := Lib.hid hn'
  have hW' : w.alloc (.cells #[.int .i64 x, .int .i64 y, .int .i64 z, .slice a n cap] 35) = W := hW.symm
  have hX' : W.alloc (.cells #[.int .i64 x', .int .i64 y', .int .i64 z', .slice a' n' cap'] 47) = X := hX.symm
  clear h h' hn hn' hbw hbx hbb hW hX c0 c1 c2 c3 hsz hsx
  go_enter Tryz.func16, Tryz.ntmps16
  by_cases hx : x = x'
  case neg =>
    have hres : Hid (sameB ⟨x, y, z, ts⟩ ⟨x', y', z', ts'⟩ = false) := by show _ = _; unfold sameB hiEq; simp [hx]
    go_wp2
    go_ret
    exact ⟨by rw [hres.out]; rfl, HB.out⟩
  case pos =>
  subst hx
  by_cases hy : y = y'
  case neg =>
    have hres : Hid (sameB ⟨x, y, z, ts⟩ ⟨x, y', z', ts'⟩ = false) := by show _ = _; unfold sameB hiEq; simp [hy]
    go_wp2
    go_ret
    exact ⟨by rw [hres.out]; rfl, HB.out⟩
  case pos =>
  subst hy
  by_cases hz : z = z'
  case neg =>
    have hres : Hid (sameB ⟨x, y, z, ts⟩ ⟨x, y, z', ts'⟩ = false) := by show _ = _; unfold sameB hiEq; simp [hz]
    go_wp2
    go_ret
    exact ⟨by rw [hres.out]; rfl, HB.out⟩
  case pos =>
  subst hz
  have hsv : Hid (sameB ⟨x, y, z, ts⟩ ⟨x, y, z, ts'⟩ = (ts == ts')) := by show _ = _; unfold sameB hiEq; simp
  by_cases hnn : n = n'
  case neg =>
    have hne : ((n : Int) != (n' : Int)) = true := by simp; omega
    have hres : Hid ((ts == ts') = false) := by
      show _ = _
      rw [beq_eq_false_iff_ne]
      rintro rfl
      exact hnn (HN.out.symm.trans HN'.out)
    clear hnn
    go_wp2
    go_ret
    exact ⟨by rw [hsv.out, hres.out]; rfl, HB.out⟩
  case pos =>
  subst hnn
  have hne : ((n : Int) != (n : Int)) = false := by simp
  have hltX : w.heap.size < X.heap.size := World.block_lt_of_cell? X _ e0
  go_wp2
  go_loopw [5] (fun i wr => ∃ k : Nat, k ≤ n ∧ i = .int .i64 k ∧ Hid (ts.take k = ts'.take k) ∧ Hid (Below X.heap.size X wr)) (fun i _ => n - (intOf i).toNat)
  case atStart => exact ⟨0, Nat.zero_le _, rfl, rfl, Below.refl _ _⟩
  case round =>
    obtain ⟨k, hk, rfl, HT, HBr⟩ := hrel
    have g3 := (HBr.out.cell (p := ⟨w.heap.size, 3, none⟩) hltX).trans e3
    have h3 := (HBr.out.cell (p := ⟨W.heap.size, 3, none⟩) (World.block_lt_of_cell? X _ d3)).trans d3
    by_cases hlt : k < n
    · obtain ⟨b, off, rfl, hbl, q0, q1⟩ := (HR.out.below HBr.out).at (k := k) (by rw [HN.out]; exact hlt)
      obtain ⟨b', off', rfl, hbl', p0, p1⟩ := (HR'.out.below HBr.out).at (k := k) (by rw [HN'.out]; exact hlt)
      obtain ⟨u, hu⟩ : ∃ u, (ts.getD k (0, 0)).1 = u := ⟨_, rfl⟩
      obtain ⟨v, hv⟩ : ∃ v, (ts.getD k (0, 0)).2 = v := ⟨_, rfl⟩
      obtain ⟨u', hu'⟩ : ∃ u', (ts'.getD k (0, 0)).1 = u' := ⟨_, rfl⟩
      obtain ⟨v', hv'⟩ : ∃ v', (ts'.getD k (0, 0)).2 = v' := ⟨_, rfl⟩
      rw [hu] at q0
      rw [hv] at q1
      rw [hu'] at p0
      rw [hv'] at p1
      have hor : ((u != u') = true ∧ (u ≠ u' ∨ v ≠ v')) ∨ ((u != u') = false ∧ (v != v') = true ∧ (u ≠ u' ∨ v ≠ v')) ∨ ((u != u') = false ∧ (v != v') = false ∧ u = u' ∧ v = v') := by
        by_cases h1 : u = u' <;> by_cases h2 : v = v' <;> simp [h1, h2]
      rcases hor with ⟨z1, zz⟩ | ⟨z1, z2, zz⟩ | ⟨z1, z2, zz⟩
      · have hres : Hid ((ts == ts') = false) := ts_differ (k := k) (by rw [hu, hv, hu', hv']; exact zz)
        clear hu hv hu' hv' zz
        go_wp2_with fail
        go_quiet (fail)
        go_wp2_with fail
        go_ret
        exact ⟨by rw [hsv.out, hres.out]; rfl, (HB.out.trans (HBr.out.mono HB.out.size)).trans ⟨rfl, rfl, rfl, Nat.le_refl _, fun _ _ => rfl⟩⟩
      · have hres : Hid ((ts == ts') = false) := ts_differ (k := k) (by rw [hu, hv, hu', hv']; exact zz)
        clear hu hv hu' hv' zz
        go_wp2_with fail
        go_quiet (fail)
        go_wp2_with fail
        go_ret
        exact ⟨by rw [hsv.out, hres.out]; rfl, (HB.out.trans (HBr.out.mono HB.out.size)).trans ⟨rfl, rfl, rfl, Nat.le_refl _, fun _ _ => rfl⟩⟩
      · have hnx := Lib.hid (ts_take_next HT.out (by rw [HN.out]; exact hlt) (by rw [HN'.out]; exact hlt) (by rw [hu, hu']; exact zz.1) (by rw [hv, hv']; exact zz.2))
        clear hu hv hu' hv' zz
        go_wp2_with fail
        go_quiet (fail)
        go_wp2_with fail
        go_roundw
        case rel => exact ⟨k + 1, by omega, by go_num, hnx.out, HBr.out.trans ⟨rfl, rfl, rfl, Nat.le_refl _, fun _ _ => rfl⟩⟩
        case measure => simp [intOf]; omega
    · obtain rfl : k = n := by omega
      have hres : Hid ((ts == ts') = true) := by
        have := HT.out
        rw [List.take_of_length_le (by rw [HN.out]; exact Nat.le_refl _), List.take_of_length_le (by rw [HN'.out]; exact Nat.le_refl _)] at this
        show _ = _
        rw [this]; simp
      go_wp2
      go_ret
      exact ⟨by rw [hsv.out, hres.out]; rfl, HB.out.trans (HBr.out.mono HB.out.size)⟩
theorem msame_any (m m' : Mk) (a a' : Option Addr) (cap cap' : Nat) (w : World) (h : RdT w a cap m.ts) (h' : RdT w a' cap' m'.ts) :
    Calls Tryz.prog 16 #[mkV m (.slice a m.ts.length cap), mkV m' (.slice a' m'.ts.length cap')] w fun e w' => e = .returned (.bool (sameB m m')) ∧ Below w.heap.size w w' :=
  same_any_ m.wall m.logi m.node m.ts m'.wall m'.logi m'.node m'.ts a a' cap cap' w h h'
end Go.Proofs.YtkinhilkmjfjhaaGreat
