/-
  The reference's disk: Read.
-/
import Derived.Test.YtkinhilkmjfjhaaGreatE27
namespace Go.Proofs.YtkinhilkmjfjhaaGreat
open Go.RowKit Go.Maps Go.Sort
set_option maxRecDepth 100000
attribute [local go_sem] bs_size bs_toList

theorem atI_get {n : List UInt8} {l : List Fl} : (∃ f k, getF n l = some f ∧ l[k]? = some f ∧ k < l.length ∧ atI n l = (k : Nat)) ∨ (getF n l = none ∧ atI n l = -1) := by
  cases hg : getF n l with
  | none => exact .inr ⟨rfl, atI_miss (getF_none hg)⟩
  | some f =>
    refine .inl ?_
    obtain ⟨hf, hp⟩ : ∃ k, l.findIdx? (fun f => f.nm == n) = some k := by
      cases hx : l.findIdx? (fun f => f.nm == n) with
      | some k => exact ⟨k, rfl⟩
      | none =>
        have := List.findIdx?_eq_none_iff.1 hx f (getF_some hg).1
        simp [(getF_some hg).2] at this
    obtain ⟨hlt, he, hb⟩ := List.findIdx?_eq_some_iff_getElem.1 hp
    have hgf : getF n l = some l[hf] := by
      unfold getF
      rw [List.find?_eq_some_iff_getElem]
      exact ⟨he, hf, hlt, rfl, fun j hj => by simpa using hb j hj⟩
    rw [hg] at hgf
    refine ⟨f, hf, rfl, by rw [List.getElem?_eq_getElem hlt, ← hgf], hlt, by unfold atI; rw [hp]⟩
def RReadPost (w : World) (s : DS) (n : List UInt8) (e : Ending) (w' : World) : Prop := (∃ a cap, e = .returned (.tuple #[.slice a (dataS s n).length cap, .int .i64 (hasE s n)]) ∧ Rd8 w a (dataS s n).length cap (dataS s n)) ∧ w = w'
set_option maxHeartbeats 1000000 in
theorem rread_any (c : Nat) (S : Nat → Prop) (s : DS) (n : List UInt8) (hl : s.fs.length ≤ 64) (w : World) (h : Rf w c S s) :
    Calls Tryz.prog 29 #[.pointer (some ⟨c, 0, none⟩), .string (bs n)] w (RReadPost w s n) := by
  have HA := Lib.hid (at_any c S s n hl w h)
  obtain ⟨a, cap, c0, _, _, _, hr⟩ := h.row
  have HR := Lib.hid hr
  clear h hr
  rcases atI_get (n := n) (l := s.fs) with ⟨f, k, hg, hk, hlt, hat⟩ | ⟨hg, hat⟩
  · rw [hat] at HA
    obtain ⟨b, off, ai, ci, rfl, _, q2, _, h8, _⟩ := HR.out.at hk
    have hd : dataS s n = f.dt := by unfold dataS; rw [hg]; rfl
    have hE : hasE s n = 0 := by unfold hasE; rw [hg]; rfl
    have hres : Hid (∃ a cap, (Ending.returned (.tuple #[.slice ai f.dt.length ci, .int .i64 0])) = .returned (.tuple #[.slice a (dataS s n).length cap, .int .i64 (hasE s n)]) ∧ Rd8 w a (dataS s n).length cap (dataS s n)) := ⟨ai, ci, by rw [hd, hE], by rw [hd]; exact h8⟩
    obtain ⟨m, hm⟩ : ∃ m, s.fs.length = m := ⟨_, rfl⟩
    rw [hm] at c0 hl hlt
    clear hg hk hat hd hE h8 HR
    go_enter Tryz.func29, Tryz.ntmps29
    go_wp2_with (go_at_call 81; ((with_reducible refine (HA.out).mono ?_); rintro e w' ⟨rfl, rfl⟩))
    go_ret2
    exact ⟨hres.out, rfl⟩
  · rw [hat] at HA
    have hres : Hid (∃ a cap, (Ending.returned (.tuple #[.slice none 0 0, .int .i64 8])) = .returned (.tuple #[.slice a (dataS s n).length cap, .int .i64 (hasE s n)]) ∧ Rd8 w a (dataS s n).length cap (dataS s n)) := by
      have hd : dataS s n = [] := by unfold dataS; rw [hg]; rfl
      have hE : hasE s n = 8 := by unfold hasE; rw [hg]; rfl
      exact ⟨none, 0, by rw [hd, hE]; rfl, by rw [hd]; exact ⟨rfl, Rd.nil _ _⟩⟩
    clear hg hat HR
    go_enter Tryz.func29, Tryz.ntmps29
    go_wp2_with (go_at_call 81; ((with_reducible refine (HA.out).mono ?_); rintro e w' ⟨rfl, rfl⟩))
    go_ret2
    exact ⟨hres.out, rfl⟩
end Go.Proofs.YtkinhilkmjfjhaaGreat
