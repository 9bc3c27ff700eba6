/-
  May of both packages.
-/
import Derived.Test.YtkinhilkmjfjhaaGreatQ1
namespace Go.Proofs.YtkinhilkmjfjhaaGreat
open Go.RowKit Go.Maps Go.Sort
set_option maxRecDepth 100000

def okPre (ts : List (Int × Int)) (k : Nat) : Prop := ∀ i, i < k → ¬ badAt ts i
theorem okPre.next {ts : List (Int × Int)} {k : Nat} (h : okPre ts k) (hb : ¬ badAt ts k) : okPre ts (k + 1) := fun i hi => by
  rcases Nat.lt_or_ge i k with h1 | h1
  · exact h i h1
  · rw [show i = k by omega]; exact hb
theorem okPre.all {ts : List (Int × Int)} (h : okPre ts ts.length) : mayTs ts = true := (mayTs_iff ts).2 h
theorem bad_cases (ts : List (Int × Int)) (k : Nat) {x y z : Int} (hx : (ts.getD k (0, 0)).1 = x) (hy : (ts.getD k (0, 0)).2 = y) (hz : (ts.getD (k - 1) (0, 0)).1 = z) :
    (decide (x < 1) = true ∧ badAt ts k) ∨ (decide (x < 1) = false ∧ decide (12 < x) = true ∧ badAt ts k) ∨ (decide (x < 1) = false ∧ decide (12 < x) = false ∧ decide (y < 1) = true ∧ badAt ts k) ∨
    (decide (x < 1) = false ∧ decide (12 < x) = false ∧ decide (y < 1) = false ∧ decide (100000000 < y) = true ∧ badAt ts k) ∨
    (decide (x < 1) = false ∧ decide (12 < x) = false ∧ decide (y < 1) = false ∧ decide (100000000 < y) = false ∧ k = 0 ∧ ¬ badAt ts k) ∨
    (decide (x < 1) = false ∧ decide (12 < x) = false ∧ decide (y < 1) = false ∧ decide (100000000 < y) = false ∧ 0 < k ∧ decide (x ≤ z) = true ∧ badAt ts k) ∨
    (decide (x < 1) = false ∧ decide (12 < x) = false ∧ decide (y < 1) = false ∧ decide (100000000 < y) = false ∧ 0 < k ∧ decide (x ≤ z) = false ∧ ¬ badAt ts k) := by
  unfold badAt
  rw [hx, hy, hz]
  by_cases h1 : x < 1 <;> by_cases h2 : 12 < x <;> by_cases h3 : y < 1 <;> by_cases h4 : 100000000 < y <;> by_cases h5 : 0 < k <;> by_cases h6 : x ≤ z <;> simp [h1, h2, h3, h4, h5, h6] <;> omega
set_option maxHeartbeats 4000000 in
theorem may_any (m : Mk) (a : Option Addr) (cap : Nat) (w : World) (h : RdT w a cap m.ts) :
    Calls Tryz.prog 10 #[mkV m (.slice a m.ts.length cap)] w fun e w' => e = .returned (.bool (mayM m)) ∧ Below w.heap.size w w' := by
  obtain ⟨n, hn⟩ : ∃ n, m.ts.length = n := ⟨_, rfl⟩
  have hnc : n ≤ cap := by rw [← hn]; exact h.1
  have hn6 : n ≤ 9223372036854775807 := Nat.le_trans hnc h.2.1
  rw [hn]
  obtain ⟨W, hW, hbw, hsz, c0, c1, c2, c3⟩ := mkAt w m (.slice a n cap) 35
  have HB := Lib.hid hbw
  have HR := Lib.hid (h.below hbw)
  have HN := Lib.hid hn
  have hW' : w.alloc (.cells #[.int .i64 m.wall, .int .i64 m.logi, .int .i64 m.node, .slice a n cap] 35) = W := hW.symm
  have hlt0 : w.heap.size < W.heap.size := by omega
  clear h hn hbw hW hsz
  go_enter Tryz.func10, Tryz.ntmps10
  go_wp2
  go_loopw [3, 4, 8] (fun _ _ i wr => ∃ k : Nat, k ≤ n ∧ i = .int .i64 k ∧ Hid (okPre m.ts k) ∧ Hid (Below W.heap.size W wr)) (fun _ _ i _ => n - (intOf i).toNat)
  case atStart => exact ⟨0, Nat.zero_le _, rfl, fun i hi => by omega, Below.refl _ _⟩
  case round =>
    obtain ⟨k, hk, rfl, HP, HBr⟩ := hrel
    have hc3 := HBr.out.cell (p := ⟨w.heap.size, 3, none⟩) hlt0
    have hc0 := HBr.out.cell (p := ⟨w.heap.size, 0, none⟩) hlt0
    have hc1 := HBr.out.cell (p := ⟨w.heap.size, 1, none⟩) hlt0
    have hc2 := HBr.out.cell (p := ⟨w.heap.size, 2, none⟩) hlt0
    rw [c0] at hc0
    rw [c1] at hc1
    rw [c2] at hc2
    rw [c3] at hc3
    by_cases hlt : k < n
    · obtain ⟨b, off, rfl, hbl, q0, q1⟩ := (HR.out.below HBr.out).at (k := k) (by rw [HN.out]; exact hlt)
      obtain ⟨x, hx⟩ : ∃ x, (m.ts.getD k (0, 0)).1 = x := ⟨_, rfl⟩
      obtain ⟨y, hy⟩ : ∃ y, (m.ts.getD k (0, 0)).2 = y := ⟨_, rfl⟩
      obtain ⟨z, hz⟩ : ∃ z, (m.ts.getD (k - 1) (0, 0)).1 = z := ⟨_, rfl⟩
      have hcs := bad_cases m.ts k hx hy hz
      rw [hx] at q0
      rw [hy] at q1
      obtain ⟨V, hV, hbv, hvs, v0, v1⟩ := curAt wr x y 60
      have hV' : wr.alloc (.cells #[.int .i64 x, .int .i64 y] 60) = V := hV.symm
      have p0 := hbv.cell (p := ⟨b, off + k * 2, none⟩) hbl
      clear hx hy hV hvs hbl
      rcases hcs with ⟨d1, hb⟩ | ⟨d1, d2, hb⟩ | ⟨d1, d2, d3, hb⟩ | ⟨d1, d2, d3, d4, hb⟩ | ⟨d1, d2, d3, d4, rfl, hb⟩ | ⟨d1, d2, d3, d4, d5, d6, hb⟩ | ⟨d1, d2, d3, d4, d5, d6, hb⟩
      · have hres := Lib.hid (mayTs_false (by rw [HN.out]; exact hlt) hb)
        have HBV := Lib.hid ((HB.out.trans (HBr.out.mono HB.out.size)).trans (hbv.mono ((HB.out.trans (HBr.out.mono HB.out.size)).size)))
        have HBW := Lib.hid (HBr.out.trans (hbv.mono HBr.out.size))
        have f1 := hbv.cell (p := ⟨w.heap.size, 3, none⟩) (by have := HBr.out.size; show w.heap.size < wr.heap.size; omega)
        rw [hc3] at f1
        clear hb hz hbv HBr
        go_wp2_with fail
        go_quiet (fail)
        go_wp2_with fail
        go_ret
        exact ⟨by rw [show mayM m = false by unfold mayM; rw [hres.out, Bool.and_false]]; rfl, HBV.out.trans ⟨rfl, rfl, rfl, Nat.le_refl _, fun _ _ => rfl⟩⟩
      · have hres := Lib.hid (mayTs_false (by rw [HN.out]; exact hlt) hb)
        have HBV := Lib.hid ((HB.out.trans (HBr.out.mono HB.out.size)).trans (hbv.mono ((HB.out.trans (HBr.out.mono HB.out.size)).size)))
        have HBW := Lib.hid (HBr.out.trans (hbv.mono HBr.out.size))
        have f1 := hbv.cell (p := ⟨w.heap.size, 3, none⟩) (by have := HBr.out.size; show w.heap.size < wr.heap.size; omega)
        rw [hc3] at f1
        clear hb hz hbv HBr
        go_wp2_with fail
        go_quiet (fail)
        go_wp2_with fail
        go_ret
        exact ⟨by rw [show mayM m = false by unfold mayM; rw [hres.out, Bool.and_false]]; rfl, HBV.out.trans ⟨rfl, rfl, rfl, Nat.le_refl _, fun _ _ => rfl⟩⟩
      · have hres := Lib.hid (mayTs_false (by rw [HN.out]; exact hlt) hb)
        have HBV := Lib.hid ((HB.out.trans (HBr.out.mono HB.out.size)).trans (hbv.mono ((HB.out.trans (HBr.out.mono HB.out.size)).size)))
        have HBW := Lib.hid (HBr.out.trans (hbv.mono HBr.out.size))
        have f1 := hbv.cell (p := ⟨w.heap.size, 3, none⟩) (by have := HBr.out.size; show w.heap.size < wr.heap.size; omega)
        rw [hc3] at f1
        clear hb hz hbv HBr
        go_wp2_with fail
        go_quiet (fail)
        go_wp2_with fail
        go_ret
        exact ⟨by rw [show mayM m = false by unfold mayM; rw [hres.out, Bool.and_false]]; rfl, HBV.out.trans ⟨rfl, rfl, rfl, Nat.le_refl _, fun _ _ => rfl⟩⟩
      · have hres := Lib.hid (mayTs_false (by rw [HN.out]; exact hlt) hb)
        have HBV := Lib.hid ((HB.out.trans (HBr.out.mono HB.out.size)).trans (hbv.mono ((HB.out.trans (HBr.out.mono HB.out.size)).size)))
        have HBW := Lib.hid (HBr.out.trans (hbv.mono HBr.out.size))
        have f1 := hbv.cell (p := ⟨w.heap.size, 3, none⟩) (by have := HBr.out.size; show w.heap.size < wr.heap.size; omega)
        rw [hc3] at f1
        clear hb hz hbv HBr
        go_wp2_with fail
        go_quiet (fail)
        go_wp2_with fail
        go_ret
        exact ⟨by rw [show mayM m = false by unfold mayM; rw [hres.out, Bool.and_false]]; rfl, HBV.out.trans ⟨rfl, rfl, rfl, Nat.le_refl _, fun _ _ => rfl⟩⟩
      · simp only [Nat.zero_mul, Nat.add_zero] at q0 q1 p0
        have HP2 := Lib.hid (HP.out.next hb)
        have HBV := Lib.hid ((HB.out.trans (HBr.out.mono HB.out.size)).trans (hbv.mono ((HB.out.trans (HBr.out.mono HB.out.size)).size)))
        have HBW := Lib.hid (HBr.out.trans (hbv.mono HBr.out.size))
        have f1 := hbv.cell (p := ⟨w.heap.size, 3, none⟩) (by have := HBr.out.size; show w.heap.size < wr.heap.size; omega)
        rw [hc3] at f1
        clear hb hz hbv HBr
        go_wp2_with fail
        go_quiet (fail)
        go_wp2_with fail
        go_roundw
        case rel => exact ⟨1, by omega, by go_num, HP2.out, HBW.out.trans ⟨rfl, rfl, rfl, Nat.le_refl _, fun _ _ => rfl⟩⟩
        case measure => simp [intOf]; omega
      · obtain ⟨j, rfl⟩ : ∃ j, k = j + 1 := ⟨k - 1, by omega⟩
        obtain ⟨b', off', e', _, q2, _⟩ := (HR.out.below HBr.out).at (k := j) (by rw [HN.out]; omega)
        obtain ⟨rfl, rfl⟩ : b = b' ∧ off = off' := by simpa using e'
        rw [Nat.add_sub_cancel] at hz
        rw [hz] at q2
        have p1 := hbv.cell (p := ⟨b, off + j * 2, none⟩) (World.block_lt_of_cell? wr _ q2)
        rw [q2] at p1
        have hwj : wrap64 (j : Int) = j := IntWalk.wrap64_in _ ⟨by omega, by omega⟩
        have hwj2 : wrap64 ((j : Int) + 1 + 1) = (j : Int) + 1 + 1 := IntWalk.wrap64_in _ ⟨by omega, by omega⟩
        have hj : j < n := Nat.lt_of_succ_lt hlt
        have hres := Lib.hid (mayTs_false (by rw [HN.out]; exact hlt) hb)
        have HBV := Lib.hid ((HB.out.trans (HBr.out.mono HB.out.size)).trans (hbv.mono ((HB.out.trans (HBr.out.mono HB.out.size)).size)))
        have HBW := Lib.hid (HBr.out.trans (hbv.mono HBr.out.size))
        have f1 := hbv.cell (p := ⟨w.heap.size, 3, none⟩) (by have := HBr.out.size; show w.heap.size < wr.heap.size; omega)
        rw [hc3] at f1
        clear hb hz hbv HBr
        go_wp2_with fail
        go_quiet (fail)
        go_wp2_with fail
        go_ret
        exact ⟨by rw [show mayM m = false by unfold mayM; rw [hres.out, Bool.and_false]]; rfl, HBV.out.trans ⟨rfl, rfl, rfl, Nat.le_refl _, fun _ _ => rfl⟩⟩
      · obtain ⟨j, rfl⟩ : ∃ j, k = j + 1 := ⟨k - 1, by omega⟩
        obtain ⟨b', off', e', _, q2, _⟩ := (HR.out.below HBr.out).at (k := j) (by rw [HN.out]; omega)
        obtain ⟨rfl, rfl⟩ : b = b' ∧ off = off' := by simpa using e'
        rw [Nat.add_sub_cancel] at hz
        rw [hz] at q2
        have p1 := hbv.cell (p := ⟨b, off + j * 2, none⟩) (World.block_lt_of_cell? wr _ q2)
        rw [q2] at p1
        have hwj : wrap64 (j : Int) = j := IntWalk.wrap64_in _ ⟨by omega, by omega⟩
        have hwj2 : wrap64 ((j : Int) + 1 + 1) = (j : Int) + 1 + 1 := IntWalk.wrap64_in _ ⟨by omega, by omega⟩
        have hj : j < n := Nat.lt_of_succ_lt hlt
        have HP2 := Lib.hid (HP.out.next hb)
        have HBV := Lib.hid ((HB.out.trans (HBr.out.mono HB.out.size)).trans (hbv.mono ((HB.out.trans (HBr.out.mono HB.out.size)).size)))
        have HBW := Lib.hid (HBr.out.trans (hbv.mono HBr.out.size))
        have f1 := hbv.cell (p := ⟨w.heap.size, 3, none⟩) (by have := HBr.out.size; show w.heap.size < wr.heap.size; omega)
        rw [hc3] at f1
        clear hb hz hbv HBr
        go_wp2_with fail
        go_quiet (fail)
        go_wp2_with fail
        go_roundw
        case rel => exact ⟨(j + 1) + 1, by omega, by go_num, HP2.out, HBW.out.trans ⟨rfl, rfl, rfl, Nat.le_refl _, fun _ _ => rfl⟩⟩
        case measure => simp [intOf]; omega
    · obtain rfl : k = n := by omega
      have hts : Hid (mayTs m.ts = true) := okPre.all (by rw [HN.out]; exact HP.out)
      have HBV := Lib.hid (HB.out.trans (HBr.out.mono HB.out.size))
      clear HP HBr HR
      go_wp2_with fail
      go_at_call 37
      refine (hi_any m _).mono ?_
      rintro e w2 ⟨rfl, hb2⟩
      have HB2 := Lib.hid (HBV.out.trans (hb2.mono HBV.out.size))
      clear hb2
      go_wp2_with fail
      go_ret
      exact ⟨by rw [show mayM m = hiB m by unfold mayM; rw [hts.out, Bool.and_true]]; rfl, HB2.out⟩
set_option maxHeartbeats 4000000 in
theorem rmay_any (m : Mk) (a : Option Addr) (cap : Nat) (w : World) (h : RdT w a cap m.ts) :
    Calls Tryz.prog 11 #[mkV m (.slice a m.ts.length cap)] w fun e w' => e = .returned (.bool (mayM m)) ∧ Below w.heap.size w w' := by
  obtain ⟨n, hn⟩ : ∃ n, m.ts.length = n := ⟨_, rfl⟩
  have hnc : n ≤ cap := by rw [← hn]; exact h.1
  have hn6 : n ≤ 9223372036854775807 := Nat.le_trans hnc h.2.1
  rw [hn]
  obtain ⟨W, hW, hbw, hsz, c0, c1, c2, c3⟩ := mkAt w m (.slice a n cap) 47
  have HB := Lib.hid hbw
  have HR := Lib.hid (h.below hbw)
  have HN := Lib.hid hn
  have hW' : w.alloc (.cells #[.int .i64 m.wall, .int .i64 m.logi, .int .i64 m.node, .slice a n cap] 47) = W := hW.symm
  have hlt0 : w.heap.size < W.heap.size := by omega
  clear h hn hbw hW hsz
  go_enter Tryz.func11, Tryz.ntmps11
  go_wp2_with fail
  go_at_call 38
  refine (rhi_any m _).mono ?_
  rintro e W2 ⟨rfl, hb2⟩
  cases hh : hiB m with
  | false =>
    have HB2 := Lib.hid (HB.out.trans (hb2.mono HB.out.size))
    have hres : Hid (mayM m = false) := by show _ = _; unfold mayM; rw [hh, Bool.false_and]
    go_wp2
    go_ret
    exact ⟨by rw [hres.out]; rfl, HB2.out⟩
  | true =>
  have HH := Lib.hid hh
  have e3 := hb2.cell (p := ⟨w.heap.size, 3, none⟩) hlt0
  rw [c3] at e3
  have HRR := Lib.hid (HR.out.below hb2)
  have HBB := Lib.hid (HB.out.trans (hb2.mono HB.out.size))
  have hlt1 : w.heap.size < W2.heap.size := Nat.lt_of_lt_of_le hlt0 hb2.size
  clear hh hb2 HR HB c0 c1 c2 c3 hW' hlt0
  go_wp2_with fail
  go_loopw [3, 4] (fun i _ wr => ∃ k : Nat, k ≤ n ∧ i = .int .i64 k ∧ Hid (okPre m.ts k) ∧ Hid (Below W2.heap.size W2 wr)) (fun i _ _ => n - (intOf i).toNat)
  case atStart => exact ⟨0, Nat.zero_le _, rfl, fun i hi => by omega, Below.refl _ _⟩
  case round =>
    obtain ⟨k, hk, rfl, HP, HBr⟩ := hrel
    have hc3 := HBr.out.cell (p := ⟨w.heap.size, 3, none⟩) hlt1
    rw [e3] at hc3
    by_cases hlt : k < n
    · obtain ⟨b, off, rfl, hbl, q0, q1⟩ := (HRR.out.below HBr.out).at (k := k) (by rw [HN.out]; exact hlt)
      obtain ⟨x, hx⟩ : ∃ x, (m.ts.getD k (0, 0)).1 = x := ⟨_, rfl⟩
      obtain ⟨y, hy⟩ : ∃ y, (m.ts.getD k (0, 0)).2 = y := ⟨_, rfl⟩
      obtain ⟨z, hz⟩ : ∃ z, (m.ts.getD (k - 1) (0, 0)).1 = z := ⟨_, rfl⟩
      have hcs := bad_cases m.ts k hx hy hz
      rw [hx] at q0
      rw [hy] at q1
      obtain ⟨V, hV, hbv, hvs, v0, v1⟩ := curAt wr x y 77
      have hV' : wr.alloc (.cells #[.int .i64 x, .int .i64 y] 77) = V := hV.symm
      have p0 := hbv.cell (p := ⟨b, off + k * 2, none⟩) hbl
      clear hx hy hV hvs hbl
      rcases hcs with ⟨d1, hb⟩ | ⟨d1, d2, hb⟩ | ⟨d1, d2, d3, hb⟩ | ⟨d1, d2, d3, d4, hb⟩ | ⟨d1, d2, d3, d4, rfl, hb⟩ | ⟨d1, d2, d3, d4, d5, d6, hb⟩ | ⟨d1, d2, d3, d4, d5, d6, hb⟩
      · have hres := Lib.hid (mayTs_false (by rw [HN.out]; exact hlt) hb)
        have HBV := Lib.hid ((HBB.out.trans (HBr.out.mono HBB.out.size)).trans (hbv.mono ((HBB.out.trans (HBr.out.mono HBB.out.size)).size)))
        have HBW := Lib.hid (HBr.out.trans (hbv.mono HBr.out.size))
        have f1 := hbv.cell (p := ⟨w.heap.size, 3, none⟩) (by have := HBr.out.size; show w.heap.size < wr.heap.size; omega)
        rw [hc3] at f1
        clear hb hz hbv HBr
        go_wp2_with fail
        go_quiet (fail)
        go_wp2_with fail
        go_ret
        exact ⟨by rw [show mayM m = false by unfold mayM; rw [hres.out, Bool.and_false]]; rfl, HBV.out.trans ⟨rfl, rfl, rfl, Nat.le_refl _, fun _ _ => rfl⟩⟩
      · have hres := Lib.hid (mayTs_false (by rw [HN.out]; exact hlt) hb)
        have HBV := Lib.hid ((HBB.out.trans (HBr.out.mono HBB.out.size)).trans (hbv.mono ((HBB.out.trans (HBr.out.mono HBB.out.size)).size)))
        have HBW := Lib.hid (HBr.out.trans (hbv.mono HBr.out.size))
        have f1 := hbv.cell (p := ⟨w.heap.size, 3, none⟩) (by have := HBr.out.size; show w.heap.size < wr.heap.size; omega)
        rw [hc3] at f1
        clear hb hz hbv HBr
        go_wp2_with fail
        go_quiet (fail)
        go_wp2_with fail
        go_ret
        exact ⟨by rw [show mayM m = false by unfold mayM; rw [hres.out, Bool.and_false]]; rfl, HBV.out.trans ⟨rfl, rfl, rfl, Nat.le_refl _, fun _ _ => rfl⟩⟩
      · have hres := Lib.hid (mayTs_false (by rw [HN.out]; exact hlt) hb)
        have HBV := Lib.hid ((HBB.out.trans (HBr.out.mono HBB.out.size)).trans (hbv.mono ((HBB.out.trans (HBr.out.mono HBB.out.size)).size)))
        have HBW := Lib.hid (HBr.out.trans (hbv.mono HBr.out.size))
        have f1 := hbv.cell (p := ⟨w.heap.size, 3, none⟩) (by have := HBr.out.size; show w.heap.size < wr.heap.size; omega)
        rw [hc3] at f1
        clear hb hz hbv HBr
        go_wp2_with fail
        go_quiet (fail)
        go_wp2_with fail
        go_ret
        exact ⟨by rw [show mayM m = false by unfold mayM; rw [hres.out, Bool.and_false]]; rfl, HBV.out.trans ⟨rfl, rfl, rfl, Nat.le_refl _, fun _ _ => rfl⟩⟩
      · have hres := Lib.hid (mayTs_false (by rw [HN.out]; exact hlt) hb)
        have HBV := Lib.hid ((HBB.out.trans (HBr.out.mono HBB.out.size)).trans (hbv.mono ((HBB.out.trans (HBr.out.mono HBB.out.size)).size)))
        have HBW := Lib.hid (HBr.out.trans (hbv.mono HBr.out.size))
        have f1 := hbv.cell (p := ⟨w.heap.size, 3, none⟩) (by have := HBr.out.size; show w.heap.size < wr.heap.size; omega)
        rw [hc3] at f1
        clear hb hz hbv HBr
        go_wp2_with fail
        go_quiet (fail)
        go_wp2_with fail
        go_ret
        exact ⟨by rw [show mayM m = false by unfold mayM; rw [hres.out, Bool.and_false]]; rfl, HBV.out.trans ⟨rfl, rfl, rfl, Nat.le_refl _, fun _ _ => rfl⟩⟩
      · simp only [Nat.zero_mul, Nat.add_zero] at q0 q1 p0
        have HP2 := Lib.hid (HP.out.next hb)
        have HBV := Lib.hid ((HBB.out.trans (HBr.out.mono HBB.out.size)).trans (hbv.mono ((HBB.out.trans (HBr.out.mono HBB.out.size)).size)))
        have HBW := Lib.hid (HBr.out.trans (hbv.mono HBr.out.size))
        have f1 := hbv.cell (p := ⟨w.heap.size, 3, none⟩) (by have := HBr.out.size; show w.heap.size < wr.heap.size; omega)
        rw [hc3] at f1
        clear hb hz hbv HBr
        go_wp2_with fail
        go_quiet (fail)
        go_wp2_with fail
        go_roundw
        case rel => exact ⟨1, by omega, by go_num, HP2.out, HBW.out.trans ⟨rfl, rfl, rfl, Nat.le_refl _, fun _ _ => rfl⟩⟩
        case measure => simp [intOf]; omega
      · obtain ⟨j, rfl⟩ : ∃ j, k = j + 1 := ⟨k - 1, by omega⟩
        obtain ⟨b', off', e', _, q2, _⟩ := (HRR.out.below HBr.out).at (k := j) (by rw [HN.out]; omega)
        obtain ⟨rfl, rfl⟩ : b = b' ∧ off = off' := by simpa using e'
        rw [Nat.add_sub_cancel] at hz
        rw [hz] at q2
        have p1 := hbv.cell (p := ⟨b, off + j * 2, none⟩) (World.block_lt_of_cell? wr _ q2)
        rw [q2] at p1
        have hwj : wrap64 (j : Int) = j := IntWalk.wrap64_in _ ⟨by omega, by omega⟩
        have hwj2 : wrap64 ((j : Int) + 1 + 1) = (j : Int) + 1 + 1 := IntWalk.wrap64_in _ ⟨by omega, by omega⟩
        have hj : j < n := Nat.lt_of_succ_lt hlt
        have hres := Lib.hid (mayTs_false (by rw [HN.out]; exact hlt) hb)
        have HBV := Lib.hid ((HBB.out.trans (HBr.out.mono HBB.out.size)).trans (hbv.mono ((HBB.out.trans (HBr.out.mono HBB.out.size)).size)))
        have HBW := Lib.hid (HBr.out.trans (hbv.mono HBr.out.size))
        have f1 := hbv.cell (p := ⟨w.heap.size, 3, none⟩) (by have := HBr.out.size; show w.heap.size < wr.heap.size; omega)
        rw [hc3] at f1
        clear hb hz hbv HBr
        go_wp2_with fail
        go_quiet (fail)
        go_wp2_with fail
        go_ret
        exact ⟨by rw [show mayM m = false by unfold mayM; rw [hres.out, Bool.and_false]]; rfl, HBV.out.trans ⟨rfl, rfl, rfl, Nat.le_refl _, fun _ _ => rfl⟩⟩
      · obtain ⟨j, rfl⟩ : ∃ j, k = j + 1 := ⟨k - 1, by omega⟩
        obtain ⟨b', off', e', _, q2, _⟩ := (HRR.out.below HBr.out).at (k := j) (by rw [HN.out]; omega)
        obtain ⟨rfl, rfl⟩ : b = b' ∧ off = off' := by simpa using e'
        rw [Nat.add_sub_cancel] at hz
        rw [hz] at q2
        have p1 := hbv.cell (p := ⟨b, off + j * 2, none⟩) (World.block_lt_of_cell? wr _ q2)
        rw [q2] at p1
        have hwj : wrap64 (j : Int) = j := IntWalk.wrap64_in _ ⟨by omega, by omega⟩
        have hwj2 : wrap64 ((j : Int) + 1 + 1) = (j : Int) + 1 + 1 := IntWalk.wrap64_in _ ⟨by omega, by omega⟩
        have hj : j < n := Nat.lt_of_succ_lt hlt
        have HP2 := Lib.hid (HP.out.next hb)
        have HBV := Lib.hid ((HBB.out.trans (HBr.out.mono HBB.out.size)).trans (hbv.mono ((HBB.out.trans (HBr.out.mono HBB.out.size)).size)))
        have HBW := Lib.hid (HBr.out.trans (hbv.mono HBr.out.size))
        have f1 := hbv.cell (p := ⟨w.heap.size, 3, none⟩) (by have := HBr.out.size; show w.heap.size < wr.heap.size; omega)
        rw [hc3] at f1
        clear hb hz hbv HBr
        go_wp2_with fail
        go_quiet (fail)
        go_wp2_with fail
        go_roundw
        case rel => exact ⟨(j + 1) + 1, by omega, by go_num, HP2.out, HBW.out.trans ⟨rfl, rfl, rfl, Nat.le_refl _, fun _ _ => rfl⟩⟩
        case measure => simp [intOf]; omega
    · obtain rfl : k = n := by omega
      have hts : Hid (mayTs m.ts = true) := okPre.all (by rw [HN.out]; exact HP.out)
      have HBV := Lib.hid (HBB.out.trans (HBr.out.mono HBB.out.size))
      clear HP HBr
      have hres : Hid (mayM m = true) := by show _ = _; unfold mayM; rw [HH.out, hts.out]; rfl
      go_wp2_with fail
      go_ret
      exact ⟨by rw [hres.out]; rfl, HBV.out⟩
end Go.Proofs.YtkinhilkmjfjhaaGreat
