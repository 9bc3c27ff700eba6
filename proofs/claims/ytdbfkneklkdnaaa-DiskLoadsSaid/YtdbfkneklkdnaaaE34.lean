/-
  The reference's disk: Create, Remove, Arm.
-/
import Derived.Test.YtdbfkneklkdnaaaE33
namespace Go.Proofs.Ytdbfkneklkdnaaa
open Go.RowKit Go.Maps Go.Sort
set_option maxRecDepth 100000
attribute [local go_sem] bs_size bs_toList

theorem atI_some {n : List UInt8} {l : List Fl} (h : (getF n l).isSome = true) : ∃ f k, getF n l = some f ∧ l[k]? = some f ∧ k < l.length ∧ atI n l = (k : Nat) := by
  rcases atI_get (n := n) (l := l) with h' | ⟨h', _⟩
  · exact h'
  · rw [h'] at h; cases h
theorem atI_none {n : List UInt8} {l : List Fl} (h : getF n l = none) : atI n l = -1 := by
  rcases atI_get (n := n) (l := l) with ⟨f, k, h', _⟩ | ⟨_, h'⟩
  · rw [h'] at h; cases h
  · exact h'
/-- What 'falls' tells, at a world. -/
theorem falls_out {B : Int} (hB : B ≤ 1000000000000) {c : Nat} {S : Nat → Prop} {s : DS} (hok : DOk B s) (hdn : s.dn = false) {w : World} (h : Rf w c S s) {fb : Bool} (hfb : (fallS s).2 = fb) {s1 : DS} (hs1 : (fallS s).1 = s1) :
    Calls Try.prog 66 #[.pointer (some ⟨c, 0, none⟩)] w fun e w' => e = .returned (.bool fb) ∧ Rf w' c S s1 ∧ Fr (fun k => k = c) w w' := by
  have := falls_any c S s hok.ar0 hok.ar1 hok.wr0 (Int.le_trans hok.wr1 hB) hdn w h
  unfold FallPost at this
  rw [hfb, hs1] at this
  exact this
set_option maxHeartbeats 2000000 in
theorem rcreate_any (c : Nat) (S : Nat → Prop) (B : Int) (hB : B ≤ 1000000000000) (s : DS) (n : List UInt8) (hn : n.length ≤ 9223372036854775807) (hok : DOk B s) (w : World) (h : Rf w c S s) :
    Calls Try.prog 45 #[.pointer (some ⟨c, 0, none⟩), .string (bs n)] w (RTold w c S (createS s n)) := by
  have HS := Lib.hid h.lt
  have HIN := Lib.hid h.in
  have HRF := Lib.hid h
  have hlen := hok.len
  have HAT := Lib.hid (at_any c S s n hok.len w h)
  have HNM := Lib.hid (rname_any n hn w)
  obtain ⟨a, cap, c0, c1, c2, c3, hr⟩ := h.row
  cases hdn : s.dn with
  | true =>
    rw [hdn] at c1
    have hres : Hid (createS s n = (s, 12)) := errW_dn hdn
    clear hr hdn h
    go_enter Try.func45, Try.ntmps45
    go_wp2
    go_ret
    exact RTold.same (by rw [hres.out]; rfl) HRF.out (by rw [hres.out]) (Fr.refl _ _) HS.out
  | false =>
    rw [hdn] at c1
    cases hnm : nameOk n with
    | false =>
      have hres : Hid (createS s n = (s, 10)) := by
        have : creE s n = 10 := by unfold creE; rw [hnm]; rfl
        unfold createS; rw [this]; exact errW_err hdn (by decide)
      rw [hnm] at HNM
      clear hr hdn h hnm
      go_enter Try.func45, Try.ntmps45
      go_wp2_with (go_at_call 57; ((with_reducible refine (HNM.out).mono ?_); rintro e w1 ⟨rfl, rfl⟩))
      go_ret
      exact RTold.same (by rw [hres.out]; rfl) HRF.out (by rw [hres.out]) (Fr.refl _ _) HS.out
    | true =>
      rw [hnm] at HNM
      cases hg : (getF n s.fs).isSome with
      | true =>
        have hres : Hid (createS s n = (s, 9)) := by
          have : creE s n = 9 := by unfold creE; rw [hnm, hg]; rfl
          unfold createS; rw [this]; exact errW_err hdn (by decide)
        obtain ⟨f, k, _, _, hk, hat⟩ := atI_some hg
        rw [hat] at HAT
        clear hr hdn h hnm hg hat
        go_enter Try.func45, Try.ntmps45
        go_wp2_with (first | (go_at_call 57; ((with_reducible refine (HNM.out).mono ?_); rintro e w1 ⟨rfl, rfl⟩)) | (go_at_call 56; ((with_reducible refine (HAT.out).mono ?_); rintro e w1 ⟨rfl, rfl⟩)))
        go_ret
        exact RTold.same (by rw [hres.out]; rfl) HRF.out (by rw [hres.out]) (Fr.refl _ _) HS.out
      | false =>
        have hgn : getF n s.fs = none := by simpa using hg
        rw [atI_none hgn] at HAT
        by_cases h64 : 64 ≤ s.fs.length
        · have hres : Hid (createS s n = (s, 3)) := by
            have : creE s n = 3 := by unfold creE; rw [hnm, hg]; simp [h64]
            unfold createS; rw [this]; exact errW_err hdn (by decide)
          obtain ⟨m, hm⟩ : ∃ m, s.fs.length = m := ⟨_, rfl⟩
          rw [hm] at c0 hlen h64
          clear hr hdn h hnm hg hgn hm
          go_enter Try.func45, Try.ntmps45
          go_wp2_with (first | (go_at_call 57; ((with_reducible refine (HNM.out).mono ?_); rintro e w1 ⟨rfl, rfl⟩)) | (go_at_call 56; ((with_reducible refine (HAT.out).mono ?_); rintro e w1 ⟨rfl, rfl⟩)))
          go_ret
          exact RTold.same (by rw [hres.out]; rfl) HRF.out (by rw [hres.out]) (Fr.refl _ _) HS.out
        · have he : creE s n = 0 := by unfold creE; rw [hnm, hg]; simp; omega
          obtain ⟨s1, hs1⟩ : ∃ s1, (fallS s).1 = s1 := ⟨_, rfl⟩
          have hfs1 : s1.fs = s.fs := by rw [← hs1]; exact fallS_fs s
          cases hfb : (fallS s).2 with
          | true =>
            have HFA := Lib.hid (falls_out hB hok hdn h hfb hs1)
            have hres : Hid (createS s n = (s1, 12)) := by unfold createS; rw [he, ← hs1]; exact errW_fall hdn rfl hfb
            obtain ⟨m, hm⟩ : ∃ m, s.fs.length = m := ⟨_, rfl⟩
            rw [hm] at c0 hlen h64
            clear hr hdn h hnm hg hgn hm hfb hs1 hfs1 he
            go_enter Try.func45, Try.ntmps45
            go_wp2_with (first | (go_at_call 57; ((with_reducible refine (HNM.out).mono ?_); rintro e w1 ⟨rfl, rfl⟩)) | (go_at_call 56; ((with_reducible refine (HAT.out).mono ?_); rintro e w1 ⟨rfl, rfl⟩)) | (go_at_call 66; ((with_reducible refine (HFA.out).mono ?_); rintro e w1 ⟨rfl, hr1, hf1⟩; have HR1 := Lib.hid hr1; have HF1 := Lib.hid hf1; clear hr1 hf1)))
            go_ret
            exact RTold.same (by rw [hres.out]; rfl) HR1.out (by rw [hres.out]) (HF1.out.one HIN.out) HS.out
          | false =>
            have HFA := Lib.hid (falls_out hB hok hdn h hfb hs1)
            have hres : Hid (createS s n = ({ s1 with fs := insF ⟨n, [], 0⟩ s1.fs }, 0)) := by unfold createS; rw [he, ← hs1]; exact errW_ok hdn rfl hfb
            have HP : Hid (∀ W, Rf W c S s1 → Calls Try.prog 58 #[.pointer (some ⟨c, 0, none⟩), .agg #[.string (bs n), .slice none 0 0, .int .i64 0]] W (RPost W c S { s1 with fs := insF ⟨n, [], 0⟩ s1.fs })) := fun W hW =>
              put_any c S s1 ⟨n, [], 0⟩ none 0 (by rw [hfs1]; omega) (by rw [hfs1]; exact getF_none hgn) W hW ⟨rfl, Rd.nil _ _⟩ (fun h0 => by simp at h0)
            obtain ⟨m, hm⟩ : ∃ m, s.fs.length = m := ⟨_, rfl⟩
            rw [hm] at c0 hlen h64
            clear hr hdn h hnm hg hgn hm hfb hs1 hfs1 he
            go_enter Try.func45, Try.ntmps45
            go_wp2_with (first | (go_at_call 57; ((with_reducible refine (HNM.out).mono ?_); rintro e w1 ⟨rfl, rfl⟩)) | (go_at_call 56; ((with_reducible refine (HAT.out).mono ?_); rintro e w1 ⟨rfl, rfl⟩)) | (go_at_call 66; ((with_reducible refine (HFA.out).mono ?_); rintro e w1 ⟨rfl, hr1, hf1⟩; have HR1 := Lib.hid hr1; have HF1 := Lib.hid hf1; clear hr1 hf1)) | (go_at_call 58; ((with_reducible refine (HP.out _ HR1.out).mono ?_); rintro e w2 ⟨rfl, hr2, hf2⟩; have HR2 := Lib.hid hr2; have HF2 := Lib.hid hf2; clear hr2 hf2)))
            go_ret
            exact ⟨by rw [hres.out]; rfl, by rw [hres.out]; exact HR2.out.next (HF1.out.one HIN.out) (HF2.out.one HIN.out), (HF1.out.one HIN.out).trans (HF2.out.one HIN.out)⟩
end Go.Proofs.Ytdbfkneklkdnaaa
