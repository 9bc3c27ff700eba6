/-
  The reference's disk: falls.
-/
import Derived.Test.YtdbfkneklkdnaaaE28
namespace Go.Proofs.Ytdbfkneklkdnaaa
open Go.RowKit Go.Maps Go.Sort
set_option maxRecDepth 100000
attribute [local go_sem] bs_size bs_toList

theorem Rf.scal {w : World} {c : Nat} {S : Nat → Prop} {s : DS} (h : Rf w c S s) {wr' ar' : Int} {dn' : Bool} : ∃ v, w.heap[c]? = some (.cells #[v, .bool s.dn, .int .i64 s.ar, .int .i64 s.wr] 51 (0, 0)) ∧
    ∀ w', Fr (fun k => k = c) w w' → w'.heap[c]? = some (.cells #[v, .bool dn', .int .i64 ar', .int .i64 wr'] 51 (0, 0)) → Rf w' c S ⟨s.fs, wr', ar', dn'⟩ := by
  obtain ⟨v, vs, hc, hl, hr, hS, hv, hlt, hd⟩ := h
  refine ⟨v, hc, fun w' hf hc' => ⟨v, vs, hc', hl, ownsRow_keep hr fun k hk => hf.block k (hlt k (hv k hk).1) (hv k hk).2, hS, hv, fun k hk => Nat.lt_of_lt_of_le (hlt k hk) hf.size, fun i f u hfi hui => ?_⟩⟩
  obtain ⟨ai, ci, e, h8, hb⟩ := hd i f u hfi hui
  exact ⟨ai, ci, e, h8.keep0 hf fun h0 b hb' => (hb h0 b hb').2.1, hb⟩
def FallPost (w : World) (c : Nat) (S : Nat → Prop) (s : DS) (e : Ending) (w' : World) : Prop := e = .returned (.bool (fallS s).2) ∧ Rf w' c S (fallS s).1 ∧ Fr (fun k => k = c) w w'
set_option maxHeartbeats 1000000 in
theorem falls_any (c : Nat) (S : Nat → Prop) (s : DS) (h0 : 0 ≤ s.ar) (h1 : s.ar ≤ 9223372036854775807) (h2 : 0 ≤ s.wr) (h3 : s.wr ≤ 1000000000000) (hdn : s.dn = false) (w : World) (h : Rf w c S s) :
    Calls Try.prog 66 #[.pointer (some ⟨c, 0, none⟩)] w (FallPost w c S s) := by
  obtain ⟨a, cap, c0, c1, c2, c3, _⟩ := h.row
  by_cases q0 : 0 < s.ar
  · by_cases q1 : s.ar = 1
    · obtain ⟨v, hc, hk⟩ := h.scal (wr' := s.wr) (ar' := 0) (dn' := true)
      have hf : fallS s = (⟨s.fs, s.wr, 0, true⟩, true) := fall_one q1
      have f1 := frozen_of_row w c 1 _ _ hc
      have f2 := frozen_of_row w c 2 _ _ hc
      have f3 := frozen_of_row w c 3 _ _ hc
      have HK := Lib.hid hk
      have HC := Lib.hid hc
      have HF := Lib.hid hf
      rw [q1] at c2
      clear h hc hk hf q0 h0 h1 h2 h3 hdn
      go_enter Try.func66, Try.ntmps66
      go_wp2
      go_ret
      refine ⟨by rw [HF.out]; rfl, by rw [HF.out]; exact HK.out _ (((Fr.refl (fun k => k = c) w).setCell (fun _ => rfl) _).setCell (fun _ => rfl) _) (row_set (row_set HC.out rfl) rfl), (((Fr.refl (fun k => k = c) w).setCell (fun _ => rfl) _).setCell (fun _ => rfl) _)⟩
    · obtain ⟨v, hc, hk⟩ := h.scal (wr' := s.wr + 1) (ar' := s.ar - 1) (dn' := s.dn)
      have hf : fallS s = (⟨s.fs, s.wr + 1, s.ar - 1, s.dn⟩, false) := by rw [fall_more q1 hdn, if_pos q0, hdn]
      have f1 := frozen_of_row w c 1 _ _ hc
      have f2 := frozen_of_row w c 2 _ _ hc
      have f3 := frozen_of_row w c 3 _ _ hc
      have HK := Lib.hid hk
      have HC := Lib.hid hc
      have HF := Lib.hid hf
      have e1 : (s.ar - 1 == 0) = false := by simp; omega
      have d0 : decide (0 < s.ar) = true := by simpa using q0
      clear h hc hk hf hdn
      go_enter Try.func66, Try.ntmps66
      go_wp2
      go_ret
      refine ⟨by rw [HF.out]; rfl, by rw [HF.out]; exact HK.out _ (((Fr.refl (fun k => k = c) w).setCell (fun _ => rfl) _).setCell (fun _ => rfl) _) (row_set (row_set HC.out rfl) rfl), (((Fr.refl (fun k => k = c) w).setCell (fun _ => rfl) _).setCell (fun _ => rfl) _)⟩
  · obtain ⟨v, hc, hk⟩ := h.scal (wr' := s.wr + 1) (ar' := s.ar) (dn' := s.dn)
    have hf : fallS s = (⟨s.fs, s.wr + 1, s.ar, s.dn⟩, false) := by rw [fall_more (by omega) hdn, if_neg q0, hdn]
    have f1 := frozen_of_row w c 1 _ _ hc
    have f2 := frozen_of_row w c 2 _ _ hc
    have f3 := frozen_of_row w c 3 _ _ hc
    have HK := Lib.hid hk
    have HC := Lib.hid hc
    have HF := Lib.hid hf
    have d0 : decide (0 < s.ar) = false := by simpa using q0
    clear h hc hk hf hdn
    go_enter Try.func66, Try.ntmps66
    go_wp2
    go_ret
    refine ⟨by rw [HF.out]; rfl, by rw [HF.out]; exact HK.out _ ((Fr.refl (fun k => k = c) w).setCell (fun _ => rfl) _) (row_set HC.out rfl), ((Fr.refl (fun k => k = c) w).setCell (fun _ => rfl) _)⟩
end Go.Proofs.Ytdbfkneklkdnaaa
