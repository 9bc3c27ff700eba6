import Derived.Test.YtcdbgekjjjbjbaaF7
import Derived.Deep.DeepCutAuto
namespace Go.Proofs.Ytcdbgekjjjbjbaa
open Go.RowKit
attribute [local go_sem] bs_toList

theorem Own88.rd {w : World} {base : Nat} {v : Value} {vs : List Value} {ls : List (List UInt8)} (h : Own88 w base v vs ls) : ∃ a cap, v = .slice a ls.length cap ∧ Rd88 w a ls.length cap ls := by
  obtain ⟨a, cap, hv, hr⟩ := Rd.of_own h.1
  refine ⟨a, cap, hv, rfl, vs, hr, fun i l hl => ?_⟩
  obtain ⟨u, hu, hou⟩ := h.cell hl
  obtain ⟨ai, ci, rfl, hri⟩ := hou.rd
  exact ⟨ai, ci, hu, hri⟩
def eqTo (l m : List (List UInt8)) (k : Nat) : Prop := ∀ i, i < k → l.getD i [] = m.getD i []
theorem eqTo_all {l m : List (List UInt8)} (hl : l.length = m.length) (h : eqTo l m l.length) : l = m := by
  apply List.ext_getElem hl
  intro i h1 h2
  have := h i h1
  simpa [List.getD, h1, h2] using this

set_option maxHeartbeats 800000 in
theorem rows_any (a a' : Option Addr) (n n' cap cap' : Nat) (l m : List (List UInt8)) (w : World) (h : Rd88 w a n cap l) (h' : Rd88 w a' n' cap' m) :
    Calls Try.prog 19 #[.slice a n cap, .slice a' n' cap'] w fun e w' => e = .returned (.bool (l == m)) ∧ ∃ nd, w' = w.drewN nd := by
  have hR := h
  have hR' := h'
  obtain ⟨rfl, vs, hr, _⟩ := h
  obtain ⟨rfl, vs', hr', _⟩ := h'
  have hm := hr.2.1
  have hnc := hr.1
  have hm' := hr'.2.1
  have hnc' := hr'.1
  unfold maxLen at hm hm'
  clear hr hr'
  by_cases hlen : l.length = m.length
  · have hne : ((l.length : Int) == m.length) = true := beq_iff_eq.2 (by omega)
    have hne' : ((l.length : Int) != m.length) = false := by rw [bne, hne]; rfl
    have Hlen := Lib.hid hlen; clear hlen
    go_enter Try.func19, Try.ntmps19
    go_wp2_with fail
    go_loopw [5] (fun i wr => ∃ k nd : Nat, k ≤ l.length ∧ i = .int .i64 k ∧ eqTo l m k ∧ wr = w.drewN nd) (fun i _ => l.length - (intOf i).toNat)
    case atStart => exact ⟨0, 0, Nat.zero_le _, rfl, fun i h => by omega, rfl⟩
    case round =>
      obtain ⟨k, nd, hk, rfl, heq, rfl⟩ := hrel
      have Heq := Lib.hid heq; clear heq
      by_cases hlt : k < l.length
      · have hlt' : k < m.length := by rw [← Hlen.out]; exact hlt
        obtain ⟨b, off, ai, ci, rfl, hb, hc, hri⟩ := hR.cell hlt
        obtain ⟨b', off', ai', ci', rfl, hb', hc', hri'⟩ := hR'.cell hlt'
        have k1 : ∀ n, (convert 22 9 (.slice ai (l.getD k []).length ci)).run Try.prog (w.drewN n) = .ok (.string (bs (l.getD k []))) (w.drewN n) := fun n => run_toStr (P := Try.prog) (hri.below (below_drewN (Below.refl _ _) n)) 22 5 9 Try.underlying22 Try.underlying5 Try.underlying9
        have k2 : ∀ n, (convert 22 9 (.slice ai' (m.getD k []).length ci')).run Try.prog (w.drewN n) = .ok (.string (bs (m.getD k []))) (w.drewN n) := fun n => run_toStr (P := Try.prog) (hri'.below (below_drewN (Below.refl _ _) n)) 22 5 9 Try.underlying22 Try.underlying5 Try.underlying9
        have i1 : (k : Int) < l.length := by omega
        have i2 : (k : Int) < m.length := by omega
        have Hx : Hid (l.getD k [] = l.getD k []) := rfl
        generalize hx : l.getD k [] = x at *
        generalize hy : m.getD k [] = y at *
        have Hx := Lib.hid hx
        have Hy := Lib.hid hy
        clear hx hy hri hri'
        by_cases hxy : x = y
        · have e1 : (x == y) = true := beq_iff_eq.2 hxy
          have Hn : Hid (eqTo l m (k + 1)) := fun i hi => by
            rcases Nat.lt_or_ge i k with h | h
            · exact Heq.out i h
            · obtain rfl : i = k := by omega
              rw [Hx.out, Hy.out]; exact hxy
          clear hxy
          go_wp2_with fail
          go_quiet (fail)
          go_wp2
          go_roundw
          case rel => exact ⟨k + 1, _, by omega, by go_num, Hn.out, rfl⟩
          case measure => simp [intOf]; omega
        · have e1 : (x == y) = false := beq_eq_false_iff_ne.2 hxy
          have Hf : Hid ((l == m) = false) := by
            refine beq_eq_false_iff_ne.2 fun e => hxy ?_
            rw [← Hx.out, ← Hy.out, e]
          clear hxy
          go_wp2_with fail
          go_quiet (fail)
          go_wp2
          go_ret
          exact ⟨by rw [Hf.out]; rfl, nd + nq, World.drewN_drewN _ _ _⟩
      · obtain rfl : k = l.length := by omega
        have Hf : Hid ((l == m) = true) := beq_iff_eq.2 (eqTo_all Hlen.out Heq.out)
        go_wp2
        go_ret
        exact ⟨by rw [Hf.out]; rfl, nd, rfl⟩
  · have hne : ((l.length : Int) == m.length) = false := beq_eq_false_iff_ne.2 (by omega)
    have hne' : ((l.length : Int) != m.length) = true := by rw [bne, hne]; rfl
    have Hf : Hid ((l == m) = false) := beq_eq_false_iff_ne.2 fun e => hlen (by rw [e])
    clear hlen
    go_enter Try.func19, Try.ntmps19
    go_wp2
    go_ret
    exact ⟨by rw [Hf.out]; rfl, 0, rfl⟩

/-! ### few, joined -/
def fewTo (ls : List (List UInt8)) : Nat → Nat
  | 0 => 0
  | k + 1 => fewTo ls k + min (ls.getD k []).length 20001
def fewN (ls : List (List UInt8)) : Nat := fewTo ls (min ls.length 100)
def fewB (ls : List (List UInt8)) : Bool := decide (ls.length ≤ 100) && decide (fewN ls ≤ 20000)
theorem fewTo_bd (ls : List (List UInt8)) (k : Nat) : fewTo ls k ≤ k * 20001 := by
  induction k with
  | zero => simp [fewTo]
  | succ k ih => simp only [fewTo]; omega

set_option maxHeartbeats 800000 in
theorem few_any (a : Option Addr) (n cap : Nat) (l : List (List UInt8)) (w : World) (h : Rd88 w a n cap l) :
    Calls Try.prog 20 #[.slice a n cap] w fun e w' => e = .returned (.bool (fewB l)) ∧ w' = w := by
  have hR := h
  obtain ⟨rfl, vs, hr, _⟩ := h
  have hm := hr.2.1
  have hnc := hr.1
  unfold maxLen at hm
  clear hr
  go_enter Try.func20, Try.ntmps20
  go_wp2_with fail
  go_loop [3, 4] (fun s i => ∃ k : Nat, k ≤ l.length ∧ k ≤ 100 ∧ i = .int .i64 k ∧ s = .int .i64 (fewTo l k)) (fun _ i => l.length - (intOf i).toNat)
  case atStart => exact ⟨0, Nat.zero_le _, Nat.zero_le _, rfl, rfl⟩
  case round =>
    obtain ⟨k, hk, hk2, rfl, rfl⟩ := hrel
    have hfb := fewTo_bd l k
    by_cases hlt : k < l.length ∧ k < 100
    · obtain ⟨h1, h2⟩ := hlt
      obtain ⟨b, off, ai, ci, rfl, hb, hc, hri⟩ := hR.cell h1
      have Hs : Hid (fewTo l (k + 1) = fewTo l k + min (l.getD k []).length 20001) := rfl
      generalize hx : l.getD k [] = x at *
      clear hx hri
      have hb20 := fewTo_bd l k
      generalize fewTo l k = f at *
      go_wp2_with fail
      go_round
      case rel => exact ⟨k + 1, by omega, by omega, by go_num, by rw [Hs.out]; congr 1; split <;> omega⟩
      case measure => simp [intOf]; omega
    · have Hn : Hid (fewN l = fewTo l k) := by unfold fewN; congr 1; omega
      have Hb : Hid (fewB l = (decide (l.length ≤ 100) && decide (fewN l ≤ 20000))) := rfl
      generalize fewTo l k = f at *
      by_cases h1 : l.length ≤ 100
      · have d0 : decide (k < l.length) = false := by simp; omega
        have d1 : decide ((l.length : Int) ≤ 100) = true := by simp; omega
        by_cases h2 : f ≤ 20000
        · have d2 : decide ((f : Int) ≤ 20000) = true := by simp; omega
          have Hf : Hid (fewB l = true) := by rw [Hb.out, Hn.out]; simp [h1, h2]; exact trivial
          clear hlt
          go_wp2
          go_ret
          exact ⟨by rw [Hf.out]; rfl, rfl⟩
        · have d2 : decide ((f : Int) ≤ 20000) = false := by simp; omega
          have Hf : Hid (fewB l = false) := by rw [Hb.out, Hn.out]; simp [h2]; exact trivial
          clear hlt
          go_wp2
          go_ret
          exact ⟨by rw [Hf.out]; rfl, rfl⟩
      · have d0 : decide (k < l.length) = true := by simp; omega
        have d00 : decide ((k : Int) < 100) = false := by simp; omega
        have d1 : decide ((l.length : Int) ≤ 100) = false := by simp; omega
        have Hf : Hid (fewB l = false) := by rw [Hb.out]; simp [h1]; exact trivial
        clear hlt
        go_wp2
        go_ret
        exact ⟨by rw [Hf.out]; rfl, rfl⟩

theorem few_facts {ls : List (List UInt8)} (h : fewB ls = true) : ls.length ≤ 100 ∧ (∀ p ∈ ls, p.length ≤ 20000) ∧ (joinF ls).length ≤ 21200 := by
  simp only [fewB, Bool.and_eq_true, decide_eq_true_eq] at h
  obtain ⟨h1, h2⟩ := h
  have e : fewN ls = fewTo ls ls.length := by unfold fewN; rw [Nat.min_eq_left h1]
  rw [e] at h2
  have key : ∀ k, k ≤ ls.length → (∀ i, i < k → (ls.getD i []).length ≤ fewTo ls k ∨ 20001 ≤ fewTo ls k) ∧ (fewTo ls k ≤ 20000 → (joinF (ls.take k)).length = fewTo ls k + 12 * k) := by
    intro k
    induction k with
    | zero => intro _; exact ⟨fun i hi => by omega, fun _ => by simp [joinF, fewTo]⟩
    | succ k ih =>
      intro hk
      obtain ⟨i1, i2⟩ := ih (by omega)
      refine ⟨fun i hi => ?_, fun hle => ?_⟩
      · simp only [fewTo]
        rcases Nat.lt_or_ge i k with h | h
        · rcases i1 i h with h | h <;> omega
        · obtain rfl : i = k := by omega
          omega
      · simp only [fewTo] at hle ⊢
        have := i2 (by omega)
        rw [show joinF (ls.take (k + 1)) = joinTo ls (k + 1) from rfl, joinTo_succ ls k (ls.getD k []) (by simp [List.getD, show k < ls.length by omega]), List.length_append, frameOf_length]
        rw [show (joinTo ls k).length = (joinF (ls.take k)).length from rfl, this]
        omega
  obtain ⟨k1, k2⟩ := key ls.length (Nat.le_refl _)
  refine ⟨h1, fun p hp => ?_, ?_⟩
  · obtain ⟨i, hi, rfl⟩ := List.mem_iff_getElem.1 hp
    rcases k1 i hi with h | h
    · simp [List.getD, hi] at h; omega
    · omega
  · have := k2 h2
    rw [List.take_of_length_le (Nat.le_refl _)] at this
    omega

/-- racelaw5.joined: of rows that are few. -/
def JoinEnd (w : World) (ls : List (List UInt8)) (e : Ending) (w' : World) : Prop := ∃ v, e = .returned (.tuple #[v, .bool true]) ∧ Own8 w' w.heap.size 5 v (joinF ls) ∧ Below w.heap.size w w'

set_option maxHeartbeats 800000 in
theorem joined_any (a : Option Addr) (n cap : Nat) (rs : List (List UInt8)) (w : World) (h : Rd88 w a n cap rs) (hf : fewB rs = true) :
    Calls Try.prog 21 #[.slice a n cap] w (JoinEnd w rs) := by
  have hR := h
  obtain ⟨rfl, vs, hr, _⟩ := h
  have hm := hr.2.1
  have hnc := hr.1
  unfold maxLen at hm
  clear hr
  obtain ⟨f1, f2, f3⟩ := few_facts hf
  have Hf2 := Lib.hid f2
  clear f2 hf
  go_enter Try.func21, Try.ntmps21
  go_wp2_with fail
  go_loopw [2, 4, 5, 6, 7] (fun s2 v i _ _ wr => ∃ k : Nat, k ≤ rs.length ∧ s2 = .slice none 0 0 ∧ i = .int .i64 k ∧ Own8 wr w.heap.size 5 v (joinTo rs k) ∧ Below w.heap.size w wr) (fun _ _ i _ _ _ => rs.length - (intOf i).toNat)
  case atStart => exact ⟨0, Nat.zero_le _, rfl, rfl, Own8.nil _ _ _, Below.refl _ _⟩
  case round =>
    obtain ⟨k, hk, rfl, rfl, hown, hbel⟩ := hrel
    by_cases hlt : k < rs.length
    · have hp : rs[k]? = some (rs.getD k []) := by simp [List.getD, hlt]
      have Hj := Lib.hid (joinTo_succ rs k _ hp)
      have hpl : (rs.getD k []).length ≤ 20000 := Hf2.out _ (by simp [List.getD, hlt])
      have hjl := joinTo_le rs (k + 1)
      rw [Hj.out, List.length_append, frameOf_length] at hjl
      obtain ⟨b, off, a3, c3, rfl, hb, hc, hr3⟩ := hR.cell hlt
      generalize rs.getD k [] = p at *
      clear hp
      have hcell : wr.cell? ⟨b, off + k, none⟩ = some (.slice a3 p.length c3) := by rw [hbel.cell (p := ⟨b, off + k, none⟩) hb]; exact hc
      clear hc
      go_wp2_with fail
      refine (frame_any _ _ _ p wr (hr3.below hbel)).mono ?_
      rintro e w3 ⟨v3, hb3, h | h⟩
      case inr => exact absurd (by omega) h.1
      obtain ⟨_, rfl, hown3⟩ := h
      have hl3 := hb3.size
      obtain ⟨a4, c4, rfl, hr4⟩ := hown3.rd
      have hfl : (frameOf p).length = p.length + 12 := frameOf_length p
      have Hfl := Lib.hid hfl
      have d1 : (((frameOf p).length : Int) == p.length + 12) = true := by rw [hfl]; simp
      have d1' : (((frameOf p).length : Int) != p.length + 12) = false := by rw [bne, d1]; rfl
      have hown' := hown.below (Nat.le_refl _) hb3
      have hbs := hbel.size
      have hcell3 : w3.cell? ⟨b, off + k, none⟩ = some (.slice a3 p.length c3) := by rw [hb3.cell (p := ⟨b, off + k, none⟩) (by show b < _; omega)]; exact hcell
      clear hfl hcell
      go_wp2_with (at_builtin; refine wpList_app S8 rfl (.tmp 35) (.tmp 36) rfl w.heap.size rfl hown' rfl hr4.2 ?c1 ?c2 ?c3 ?c4 ?_)
      case c1 => exact B8_one _
      case c2 => rw [Hfl.out]; omega
      case c3 => rw [Hfl.out]; unfold maxLen; omega
      case c4 => omega
      intro v5 w5 hown5 hb5 _
      have hown5 := Own8.mk (l := joinTo rs k ++ frameOf p) hown5 (by simp only [List.length_append]) (B8_append _ _).symm
      rw [← Hj.out] at hown5
      have hb7 := (hbel.trans (hb3.mono hbs)).trans hb5
      clear hown hown3 hown' hb5 hr4
      go_wp2
      go_roundw
      case rel => exact ⟨k + 1, by omega, rfl, by go_num, hown5, hb7⟩
      case measure => simp [intOf]; omega
    · have Hj : Hid (joinTo rs k = joinF rs) := by unfold joinTo; rw [List.take_of_length_le (by omega)]; exact rfl
      rw [Hj.out] at hown
      go_wp2
      go_ret2
      exact ⟨_, rfl, hown, hbel⟩
end Go.Proofs.Ytcdbgekjjjbjbaa
