/-
  Two lists of rows compared (raceref.Rows).
-/
import Derived.Test.YtjjcilinghgphaaV23
import Derived.Deep.DeepCutAuto
namespace Go.Proofs.Ytjjcilinghgphaa
open Go.RowKit
set_option maxRecDepth 100000
attribute [local go_sem] bs_toList
theorem Own88.cell {w : World} {base : Nat} {v : Value} {vs : List Value} {ls : List (List UInt8)} (h : Own88 w base v vs ls) {k : Nat} {p : List UInt8} (hk : ls[k]? = some p) :
    ∃ u, vs[k]? = some u ∧ Own8 w base 5 u p := by
  have hl : vs.length = ls.length := by simpa using h.1.1
  have hlt : k < ls.length := by
    rcases Nat.lt_or_ge k ls.length with h | h
    · exact h
    · rw [List.getElem?_eq_none h] at hk; cases hk
  exact ⟨vs[k]'(by omega), List.getElem?_eq_getElem (by omega), h.2.1 k _ _ (List.getElem?_eq_getElem (by omega)) hk⟩

theorem Own88.rd {w : World} {base : Nat} {v : Value} {vs : List Value} {ls : List (List UInt8)} (h : Own88 w base v vs ls) : ∃ a cap, v = .slice a ls.length cap ∧ Rd88 w a ls.length cap ls := by
  obtain ⟨a, cap, hv, hr⟩ := Rd.of_own h.1
  refine ⟨a, cap, hv, rfl, vs, hr, fun i l hl => ?_⟩
  obtain ⟨u, hu, hou⟩ := h.cell hl
  obtain ⟨ai, ci, rfl, hri⟩ := hou.rd
  exact ⟨ai, ci, hu, hri⟩
def eqTo (l m : List (List UInt8)) (k : Nat) : Prop := ∀ i, i < k → l.getD i [] = m.getD i []
theorem eqTo_all {l m : List (List UInt8)} (hl : l.length = m.length) (h : eqTo l m l.length) : l = m := by
  apply List.ext_getElem hl
  intro i h1 h2
  have := h i h1
  simpa [List.getD, h1, h2] using this

set_option maxHeartbeats 800000 in
theorem wrows_any (a a' : Option Addr) (n n' cap cap' : Nat) (l m : List (List UInt8)) (w : World) (h : Rd88 w a n cap l) (h' : Rd88 w a' n' cap' m) :
    Calls Try.prog 20 #[.slice a n cap, .slice a' n' cap'] w fun e w' => e = .returned (.bool (l == m)) ∧ ∃ nd, w' = w.drewN nd := by
  have hR := h
  have hR' := h'
  obtain ⟨rfl, vs, hr, _⟩ := h
  obtain ⟨rfl, vs', hr', _⟩ := h'
  have hm := hr.2.1
  have hnc := hr.1
  have hm' := hr'.2.1
  have hnc' := hr'.1
  unfold maxLen at hm hm'
  clear hr hr'
  by_cases hlen : l.length = m.length
  · have hne : ((l.length : Int) == m.length) = true := beq_iff_eq.2 (by omega)
    have hne' : ((l.length : Int) != m.length) = false := by rw [bne, hne]; rfl
    have Hlen := Lib.hid hlen; clear hlen
    go_enter Try.func20, Try.ntmps20
    go_wp2_with fail
    go_loopw [5] (fun i wr => ∃ k nd : Nat, k ≤ l.length ∧ i = .int .i64 k ∧ eqTo l m k ∧ wr = w.drewN nd) (fun i _ => l.length - (intOf i).toNat)
    case atStart => exact ⟨0, 0, Nat.zero_le _, rfl, fun i h => by omega, rfl⟩
    case round =>
      obtain ⟨k, nd, hk, rfl, heq, rfl⟩ := hrel
      have Heq := Lib.hid heq; clear heq
      by_cases hlt : k < l.length
      · have hlt' : k < m.length := by rw [← Hlen.out]; exact hlt
        obtain ⟨b, off, ai, ci, rfl, hb, hc, hri⟩ := hR.cell hlt
        obtain ⟨b', off', ai', ci', rfl, hb', hc', hri'⟩ := hR'.cell hlt'
        have k1 : ∀ n, (convert 35 9 (.slice ai (l.getD k []).length ci)).run Try.prog (w.drewN n) = .ok (.string (bs (l.getD k []))) (w.drewN n) := fun n => run_toStr (P := Try.prog) (hri.below (below_dn (Below.refl _ _) n)) 35 5 9 Try.underlying35 Try.underlying5 Try.underlying9
        have k2 : ∀ n, (convert 35 9 (.slice ai' (m.getD k []).length ci')).run Try.prog (w.drewN n) = .ok (.string (bs (m.getD k []))) (w.drewN n) := fun n => run_toStr (P := Try.prog) (hri'.below (below_dn (Below.refl _ _) n)) 35 5 9 Try.underlying35 Try.underlying5 Try.underlying9
        have i1 : (k : Int) < l.length := by omega
        have i2 : (k : Int) < m.length := by omega
        have Hx : Hid (l.getD k [] = l.getD k []) := rfl
        generalize hx : l.getD k [] = x at *
        generalize hy : m.getD k [] = y at *
        have Hx := Lib.hid hx
        have Hy := Lib.hid hy
        clear hx hy hri hri'
        by_cases hxy : x = y
        · have e1 : (x == y) = true := beq_iff_eq.2 hxy
          have Hn : Hid (eqTo l m (k + 1)) := fun i hi => by
            rcases Nat.lt_or_ge i k with h | h
            · exact Heq.out i h
            · obtain rfl : i = k := by omega
              rw [Hx.out, Hy.out]; exact hxy
          clear hxy
          go_wp2_with fail
          go_quiet (fail)
          go_wp2
          go_roundw
          case rel => exact ⟨k + 1, _, by omega, by go_num, Hn.out, rfl⟩
          case measure => simp [intOf]; omega
        · have e1 : (x == y) = false := beq_eq_false_iff_ne.2 hxy
          have Hf : Hid ((l == m) = false) := by
            refine beq_eq_false_iff_ne.2 fun e => hxy ?_
            rw [← Hx.out, ← Hy.out, e]
          clear hxy
          go_wp2_with fail
          go_quiet (fail)
          go_wp2
          go_ret
          exact ⟨by rw [Hf.out]; rfl, nd + nq, World.drewN_drewN _ _ _⟩
      · obtain rfl : k = l.length := by omega
        have Hf : Hid ((l == m) = true) := beq_iff_eq.2 (eqTo_all Hlen.out Heq.out)
        go_wp2
        go_ret
        exact ⟨by rw [Hf.out]; rfl, nd, rfl⟩
  · have hne : ((l.length : Int) == m.length) = false := beq_eq_false_iff_ne.2 (by omega)
    have hne' : ((l.length : Int) != m.length) = true := by rw [bne, hne]; rfl
    have Hf : Hid ((l == m) = false) := beq_eq_false_iff_ne.2 fun e => hlen (by rw [e])
    clear hlen
    go_enter Try.func20, Try.ntmps20
    go_wp2
    go_ret
    exact ⟨by rw [Hf.out]; rfl, 0, rfl⟩

/-! ### few, joined -/
end Go.Proofs.Ytjjcilinghgphaa
