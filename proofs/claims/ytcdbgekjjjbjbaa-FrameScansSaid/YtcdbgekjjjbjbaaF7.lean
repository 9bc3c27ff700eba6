import Derived.Test.YtcdbgekjjjbjbaaF6
import Derived.Test.YtcdbgekjjjbjbaaF0b
namespace Go.Proofs.Ytcdbgekjjjbjbaa
open Go.RowKit

def joinTo (rs : List (List UInt8)) (k : Nat) : List UInt8 := joinF (rs.take k)
theorem joinTo_succ (rs : List (List UInt8)) (k : Nat) (p : List UInt8) (h : rs[k]? = some p) : joinTo rs (k + 1) = joinTo rs k ++ frameOf p := by
  unfold joinTo
  rw [List.take_add_one, h, joinF_append]; simp [joinF]
theorem joinTo_le (rs : List (List UInt8)) (k : Nat) : (joinTo rs k).length ≤ (joinF rs).length := by
  unfold joinTo
  conv => rhs; rw [← List.take_append_drop k rs, joinF_append]
  simp

theorem len_le_joinF (rs : List (List UInt8)) : rs.length ≤ (joinF rs).length := by
  induction rs with
  | nil => simp
  | cons p l ih => simp only [joinF, List.length_append, frameOf_length, List.length_cons]; omega

/-- The cell of an outer list. -/
theorem Own88.cell {w : World} {base : Nat} {v : Value} {vs : List Value} {ls : List (List UInt8)} (h : Own88 w base v vs ls) {k : Nat} {p : List UInt8} (hk : ls[k]? = some p) :
    ∃ u, vs[k]? = some u ∧ Own8 w base 5 u p := by
  have hl : vs.length = ls.length := by simpa using h.1.1
  have hlt : k < ls.length := by
    rcases Nat.lt_or_ge k ls.length with h | h
    · exact h
    · rw [List.getElem?_eq_none h] at hk; cases hk
  exact ⟨vs[k]'(by omega), List.getElem?_eq_getElem (by omega), h.2.1 k _ _ (List.getElem?_eq_getElem (by omega)) hk⟩

set_option maxHeartbeats 1600000 in
theorem again_walk (a : Option Addr) (n cap : Nat) (l : List UInt8) (w : World) (h : Rd8 w a n cap l) : Calls Try.prog 8 #[.slice a n cap] w (TrueEnd w) := by
  have hrd := h
  obtain ⟨rfl, hr⟩ := h
  have hm := hr.2.1
  have hnc := hr.1
  unfold maxLen at hm
  go_enter Try.func8, Try.ntmps8
  go_wp2_with fail
  refine (firstT _).mono ?_
  rintro e w1 ⟨rfl, hb1⟩
  have hl1 := hb1.size
  by_cases hbig : l.length ≤ 20000
  · have hd : decide ((20000 : Int) < l.length) = false := by simp; omega
    have J := scan_join _ l (Nat.le_refl _)
    have j2 := J.2.1
    have HJ := Lib.hid J
    have Jlen : (joinF (scan l).1).length ≤ 20000 := by rw [J.1]; simp; omega
    clear J
    go_wp2_with fail
    refine (scan_any _ _ _ l w1 (hrd.below hb1) (by omega)).mono ?_
    rintro e w2 ⟨v2, vs, rfl, h88, hb2⟩
    have hl2 := hb2.size
    have hbw2 := hb1.trans (hb2.mono hl1)
    generalize hrs : (scan l).1 = rs at *
    generalize hns : (scan l).2 = ns at *
    have Hrs := Lib.hid hrs; clear hrs
    have Hns := Lib.hid hns; clear hns
    obtain ⟨a2, c2, rfl, hr2⟩ := Rd.of_own h88.1
    have hrl : rs.length ≤ 20000 := Nat.le_trans (len_le_joinF rs) Jlen
    clear hb1 hb2
    go_wp2_with fail
    go_loopw [2, 5, 6, 7, 8] (fun s2 v i _ _ wr => ∃ k : Nat, k ≤ rs.length ∧ s2 = .bool false ∧ i = .int .i64 k ∧ Own8 wr w2.heap.size 5 v (joinTo rs k) ∧ Below w2.heap.size w2 wr) (fun _ _ i _ _ _ => rs.length - (intOf i).toNat)
    case atStart => exact ⟨0, Nat.zero_le _, rfl, rfl, Own8.nil _ _ _, Below.refl _ _⟩
    case round =>
      obtain ⟨k, hk, rfl, rfl, hown, hbel⟩ := hrel
      by_cases hlt : k < rs.length
      · have hp : rs[k]? = some (rs[k]) := List.getElem?_eq_getElem hlt
        have Hj := Lib.hid (joinTo_succ rs k _ hp)
        have hpl : (rs[k]).length ≤ 262144 := HJ.out.2.2.2 _ (List.getElem_mem _)
        have hjl := joinTo_le rs (k + 1)
        rw [Hj.out, List.length_append, frameOf_length] at hjl
        obtain ⟨u, hu, hou⟩ := h88.cell hp
        generalize rs[k] = p at *
        clear hp
        obtain ⟨b, off, rfl, hb, hc⟩ := hr2.at (by omega)
        have hcell : wr.cell? ⟨b, off + k, none⟩ = some u := by rw [hbel.cell (p := ⟨b, off + k, none⟩) hb]; exact hc k u hu
        clear hc
        obtain ⟨a3, c3, rfl, hr3⟩ := hou.rd
        go_wp2_with fail
        refine (frame_any _ _ _ p wr (hr3.below hbel)).mono ?_
        rintro e w3 ⟨v3, hb3, h | h⟩
        case inr => exact absurd (by omega) h.1
        obtain ⟨_, rfl, hown3⟩ := h
        have hl3 := hb3.size
        obtain ⟨a4, c4, rfl, hr4⟩ := hown3.rd
        have hown' := hown.below (Nat.le_refl _) hb3
        have hbs := hbel.size
        go_wp2_with (at_builtin; refine wpList_app S8 rfl (.tmp 38) (.tmp 39) rfl w2.heap.size rfl hown' rfl hr4.2 ?c1 ?c2 ?c3 ?c4 ?_)
        case c1 => exact B8_one _
        case c2 => rw [frameOf_length]; omega
        case c3 => rw [frameOf_length]; unfold maxLen; omega
        case c4 => omega
        intro v5 w5 hown5 hb5 _
        have hown5 := Own8.mk (l := joinTo rs k ++ frameOf p) hown5 (by simp only [List.length_append]) (B8_append _ _).symm
        rw [← Hj.out] at hown5
        have hb7 := (hbel.trans (hb3.mono hbs)).trans hb5
        clear hown hown3 hown' hb5 hr4
        go_wp2
        go_roundw
        case rel => exact ⟨k + 1, by omega, rfl, by go_num, hown5, hb7⟩
        case measure => simp [intOf]; omega
      · have Hj : Hid (joinTo rs k = l.take ns) := by
          unfold joinTo; rw [List.take_of_length_le (by omega)]; exact HJ.out.1
        rw [Hj.out] at hown
        have hns : ns ≤ l.length := HJ.out.2.1
        have hlw := hbel.size
        have hbw := hbw2.trans (hbel.mono (by omega))
        have hrw := hrd.below hbw
        obtain ⟨a5, c5, hs5, hr5⟩ := run_slice8 S8 hrw none (some (.int .i64 ns)) 0 ns (.inl ⟨rfl, rfl⟩) (.inr rfl) (by omega) (by omega)
        obtain ⟨a6, c6, hs6, hr6⟩ := run_slice8 S8 hrw (some (.int .i64 ns)) none ns l.length (.inr rfl) (.inl ⟨rfl, rfl⟩) (by omega) (Nat.le_refl _)
        rw [Nat.sub_zero, List.drop_zero] at hr5
        rw [Nat.sub_zero] at hs5
        rw [List.take_of_length_le (by simp)] at hr6
        obtain ⟨a7, c7, rfl, hr7⟩ := hown.rd
        have z1 : decide ((ns : Int) < 0) = false := by simp
        have z2 : decide ((l.length : Int) < ns) = false := by simp; omega
        clear hown
        go_wp2_with fail
        refine (bytes_any _ _ _ _ _ _ _ _ wr (Rd8.len hr7 (by simp; omega)) hr5).mono ?_
        rintro e wr ⟨rfl, rfl⟩
        have hbt : (l.take ns == l.take ns) = true := by simp
        rw [hbt]
        go_wp2_with fail
        refine (scan_any _ _ _ _ wr hr6 (by simp; omega)).mono ?_
        rintro e w8 ⟨v8, vs8, rfl, h8, hb8⟩
        rw [HJ.out.2.2.1] at h8 ⊢
        obtain ⟨a8, c8, rfl, _⟩ := Rd.of_own h8.1
        go_wp2_with fail
        refine (firstT _).mono ?_
        rintro e w9 ⟨rfl, hb9⟩
        go_wp2
        go_ret
        exact ⟨rfl, (hbw.trans (hb8.mono (by omega))).trans (hb9.mono (by have := hb8.size; omega))⟩
  · have hd : decide ((20000 : Int) < l.length) = true := by simp; omega
    go_wp2_with fail
    refine (firstT _).mono ?_
    rintro e w2 ⟨rfl, hb2⟩
    go_wp2
    go_ret
    exact ⟨rfl, hb1.trans (hb2.mono hl1)⟩
end Go.Proofs.Ytcdbgekjjjbjbaa
