/-
  Lists of files compared: only draws; the laws' operations, in plain words.
-/
import Derived.Test.YtkinhilkmjfjhaaGreatEY
namespace Go.Proofs.YtkinhilkmjfjhaaGreat
open Go.RowKit Go.Maps Go.Sort
set_option maxRecDepth 100000
attribute [local go_sem] bs_size bs_toList

theorem draws_fr {w w' : World} (h : ∃ m, w' = w.drewN m) : Fr (fun _ => False) w w' := by
  obtain ⟨m, rfl⟩ := h; exact (Fr.refl _ w).drewN m
theorem draws_next {w w' : World} (h : ∃ m, w' = w.drewN m) (i : Nat) : ∃ m, w'.drewN i = w.drewN m := by
  obtain ⟨m, rfl⟩ := h; exact ⟨m + i, by rw [World.drewN_drewN]⟩
theorem draws_below {w w' : World} (h : ∃ m, w' = w.drewN m) : Below w.heap.size w w' := (draws_fr h).below (Nat.le_refl _) (fun _ _ h => h)
theorem RdFs.draws {T : Nat → Prop} {w w' : World} {a : Option Addr} {n cap : Nat} {l : List Fl} (h : RdFs w T a n cap l) (hd : ∃ m, w' = w.drewN m) : RdFs w' T a n cap l := h.keep (draws_fr hd) (fun _ _ h => h)
set_option maxHeartbeats 1000000 in
theorem filesEq_draws (a a' : Option Addr) (n n' cap cap' : Nat) (l l' : List Fl) (T T' : Nat → Prop) (w : World) (h : RdFs w T a n cap l) (h' : RdFs w T' a' n' cap' l') :
    Calls Tryz.prog 58 #[.slice a n cap, .slice a' n' cap'] w fun e w' => e = .returned (.bool (filesB l l')) ∧ ∃ m, w' = w.drewN m := by
  have H1 := Lib.hid h
  have H2 := Lib.hid h'
  have e1 := h.1
  have e2 := h'.1
  have hm1 : n ≤ 9223372036854775807 := by obtain ⟨_, _, vs, _, hr, _⟩ := h; exact Nat.le_trans hr.1 hr.2.1
  have hm2 : n' ≤ 9223372036854775807 := by obtain ⟨_, _, vs, _, hr, _⟩ := h'; exact Nat.le_trans hr.1 hr.2.1
  clear h h'
  by_cases hn : n = n'
  · subst hn
    have E1 := Lib.hid e1
    have E2 := Lib.hid e2
    clear e1 e2
    go_enter Tryz.func58, Tryz.ntmps58
    go_wp2_with fail
    go_loopw [5] (fun i wr => ∃ k : Nat, k ≤ n ∧ i = .int .i64 k ∧ Hid (l.take k = l'.take k) ∧ Hid (∃ m, wr = w.drewN m)) (fun i _ => n - (intOf i).toNat)
    case atStart => exact ⟨0, Nat.zero_le _, rfl, rfl, 0, rfl⟩
    case round =>
      obtain ⟨k, hk, rfl, HT, HB⟩ := hrel
      by_cases hlt : k < n
      · obtain ⟨f, hf⟩ : ∃ f, l[k]? = some f := ⟨_, List.getElem?_eq_getElem (by have := E1.out; omega)⟩
        obtain ⟨g, hg⟩ : ∃ g, l'[k]? = some g := ⟨_, List.getElem?_eq_getElem (by have := E2.out; omega)⟩
        obtain ⟨b, off, ai, ci, rfl, c1, c2, c3, hr, _⟩ := (H1.out.draws HB.out).at hf
        obtain ⟨b', off', ai', ci', rfl, c1', c2', c3', hr', _⟩ := (H2.out.draws HB.out).at hg
        have k1 : ∀ i, (convert 36 9 (.slice ai f.dt.length ci)).run Tryz.prog (wr.drewN i) = .ok (.string (bs f.dt)) (wr.drewN i) := fun i => run_toStr (P := Tryz.prog) (hr.keep ((Fr.refl (fun _ => False) wr).drewN i) (fun _ _ h => h)) 36 5 9 Tryz.underlying36 Tryz.underlying5 Tryz.underlying9
        have k2 : ∀ i, (convert 36 9 (.slice ai' g.dt.length ci')).run Tryz.prog (wr.drewN i) = .ok (.string (bs g.dt)) (wr.drewN i) := fun i => run_toStr (P := Tryz.prog) (hr'.keep ((Fr.refl (fun _ => False) wr).drewN i) (fun _ _ h => h)) 36 5 9 Tryz.underlying36 Tryz.underlying5 Tryz.underlying9
        have HF := Lib.hid hf
        have HG := Lib.hid hg
        have bad : Hid (f ≠ g → filesB l l' = false) := fun hne => filesB_no fun e => hne (by rw [e, hg] at hf; exact (Option.some.inj hf).symm)
        clear hf hg hr hr'
        go_wp2_with fail
        by_cases q1 : f.nm = g.nm
        · have d1 : (f.nm == g.nm) = true := by simpa using q1
          by_cases q2 : f.sf = g.sf
          · have d2 : ((f.sf : Int) != (g.sf : Int)) = false := by simp; omega
            by_cases q3 : f.dt = g.dt
            · have d3 : (f.dt == g.dt) = true := by simpa using q3
              have hfg : Hid (f = g) := Fl.ext' q1 q3 q2
              clear q1 q2 q3 bad
              go_quiet (fail)
              go_wp2_with fail
              go_roundw
              case rel => exact ⟨k + 1, by omega, by go_num, take_next HT.out HF.out (by rw [hfg.out]; exact HG.out), draws_next HB.out _⟩
              case measure => simp [intOf]; omega
            · have d3 : (f.dt == g.dt) = false := by simpa using q3
              have hb := Lib.hid (bad.out fun e => q3 (by rw [e]))
              clear q1 q2 q3 bad
              go_quiet (fail)
              go_wp2_with fail
              go_ret
              exact ⟨by rw [hb.out]; rfl, draws_next HB.out _⟩
          · have d2 : ((f.sf : Int) != (g.sf : Int)) = true := by simp; omega
            have hb := Lib.hid (bad.out fun e => q2 (by rw [e]))
            clear q1 q2 bad
            go_quiet (fail)
            go_wp2_with fail
            go_ret
            exact ⟨by rw [hb.out]; rfl, draws_next HB.out _⟩
        · have d1 : (f.nm == g.nm) = false := by simpa using q1
          have hb := Lib.hid (bad.out fun e => q1 (by rw [e]))
          clear q1 bad
          go_quiet (fail)
          go_wp2_with fail
          go_ret
          exact ⟨by rw [hb.out]; rfl, draws_next HB.out _⟩
      · obtain rfl : k = n := by omega
        have hr : Hid (filesB l l' = true) := by
          have := HT.out
          rw [List.take_of_length_le (by rw [← E1.out]; omega), List.take_of_length_le (by rw [← E2.out]; omega)] at this
          rw [this]; exact filesB_self _
        go_wp2_with fail
        go_ret
        exact ⟨by rw [hr.out]; rfl, HB.out⟩
  · have hne : (((n : Int) != n') = true) := by simp; omega
    have hr : Hid (filesB l l' = false) := filesB_no fun e => hn (by rw [e1, e2, e])
    clear e1 e2
    go_enter Tryz.func58, Tryz.ntmps58
    go_wp2_with fail
    go_ret
    exact ⟨by rw [hr.out]; rfl, 0, rfl⟩

/-! ### what operations do, in plain words -/
theorem fallS_dn {s : DS} (h : s.dn = false) : ((fallS s).2 = true ∧ (fallS s).1.dn = true ∧ (fallS s).1.wr = s.wr) ∨ ((fallS s).2 = false ∧ (fallS s).1.dn = false ∧ (fallS s).1.wr = s.wr + 1) := by
  unfold fallS
  split
  · split
    · exact .inl ⟨rfl, rfl, rfl⟩
    · exact .inr ⟨rfl, h, rfl⟩
  · exact .inr ⟨rfl, h, rfl⟩
/-- What an operation of kind k told: r behind s. -/
def Plain (k : Int) (s : DS) (r : DS × Int) : Prop :=
  (s.dn = true ∧ r.1.fs = s.fs ∧ r.1.wr = s.wr ∧ r.1.dn = true ∧ (1 ≤ k → k ≤ 6 → r.2 = 12)) ∨
  (s.dn = false ∧ r.2 = 0 ∧ (1 ≤ k → k ≤ 6 → r.1.wr = s.wr + 1)) ∨
  (s.dn = false ∧ r.2 = 12 ∧ r.1.dn = true ∧ r.1.wr = s.wr ∧ (r.1.fs = s.fs ∨ k = 2)) ∨
  (s.dn = false ∧ r.2 ≠ 0 ∧ r.2 ≠ 12 ∧ r.1.fs = s.fs ∧ r.1.dn = false ∧ r.1.wr = s.wr)
theorem plain_errW (k : Int) (s : DS) (e : Int) (g : DS → DS) (he : e ≠ 12) (hg : ∀ s, (g s).wr = s.wr) : Plain k s (errW s e g) := by
  unfold errW
  cases hd : s.dn with
  | true => exact .inl ⟨hd, rfl, rfl, hd, fun _ _ => rfl⟩
  | false =>
    simp only [Bool.false_eq_true, if_false]
    by_cases h0 : e = 0
    · rw [if_neg (by simpa using h0)]
      rcases fallS_dn hd with ⟨h1, h2, h3⟩ | ⟨h1, h2, h3⟩
      · rw [if_pos h1]; exact .inr (.inr (.inl ⟨hd, rfl, h2, h3, .inl (fallS_fs s)⟩))
      · rw [if_neg (by rw [h1]; decide)]; exact .inr (.inl ⟨hd, rfl, fun _ _ => by show (g _).wr = _; rw [hg, h3]⟩)
    · rw [if_pos h0]; exact .inr (.inr (.inr ⟨hd, h0, he, rfl, hd, rfl⟩))
theorem hasE_12 (s : DS) (n : List UInt8) : hasE s n ≠ 12 := by unfold hasE; split <;> decide
theorem creE_12 (s : DS) (n : List UInt8) : creE s n ≠ 12 := by unfold creE; repeat' split <;> try decide
theorem cutE_12 (s : DS) (n : List UInt8) (k : Int) : cutE s n k ≠ 12 := by unfold cutE; repeat' split <;> try decide
theorem renE_12 (s : DS) (a b : List UInt8) : renE s a b ≠ 12 := by unfold renE; repeat' split <;> try decide
theorem plain_append (s : DS) (n b : List UInt8) : Plain 2 s (appendS s n b) := by
  unfold appendS
  cases hd : s.dn with
  | true =>
    have he : appE s n b = 12 := by unfold appE; rw [hd]; rfl
    rw [if_pos (by rw [he]; decide)]
    exact .inl ⟨hd, rfl, rfl, hd, fun _ _ => he⟩
  | false =>
    have h12 : appE s n b ≠ 12 := by unfold appE; rw [hd]; simp only [Bool.false_eq_true, if_false]; repeat' split <;> try decide
    by_cases h0 : appE s n b = 0
    · rw [if_neg (by simpa using h0)]
      rcases fallS_dn hd with ⟨h1, h2, h3⟩ | ⟨h1, h2, h3⟩
      · rw [h1]; exact .inr (.inr (.inl ⟨hd, rfl, h2, h3, .inr rfl⟩))
      · rw [h1]; exact .inr (.inl ⟨hd, rfl, fun _ _ => h3⟩)
    · rw [if_pos h0]; exact .inr (.inr (.inr ⟨hd, h0, h12, rfl, hd, rfl⟩))
/-- What changes nothing that shows, or only the fall to come. -/
theorem plain_other {k : Int} (hk : ¬ (1 ≤ k ∧ k ≤ 6)) {s s' : DS} {e : Int} (h1 : s'.fs = s.fs) (h2 : s'.wr = s.wr) (h3 : s'.dn = s.dn) (he : e ≠ 12) : Plain k s (s', e) := by
  cases hd : s.dn with
  | true => exact .inl ⟨hd, h1, h2, h3.trans hd, fun a b => absurd ⟨a, b⟩ hk⟩
  | false =>
    by_cases h0 : e = 0
    · exact .inr (.inl ⟨hd, h0, fun a b => absurd ⟨a, b⟩ hk⟩)
    · exact .inr (.inr (.inr ⟨hd, h0, he, h1, h3.trans hd, h2⟩))
theorem plain_does (s : DS) (o : OpV) (h8 : o.k ≠ 8) : Plain o.k s (doesS s o) := by
  unfold doesS
  split
  · exact plain_errW _ _ _ _ (creE_12 _ _) fun _ => rfl
  · split
    · rename_i h; rw [h]; exact plain_append _ _ _
    · split
      · exact plain_errW _ _ _ _ (hasE_12 _ _) fun _ => rfl
      · split
        · exact plain_errW _ _ _ _ (cutE_12 _ _ _) fun _ => rfl
        · split
          · exact plain_errW _ _ _ _ (renE_12 _ _ _) fun _ => rfl
          · split
            · exact plain_errW _ _ _ _ (hasE_12 _ _) fun _ => rfl
            · rename_i h1 h2 h3 h4 h5 h6
              have hk : ¬ (1 ≤ o.k ∧ o.k ≤ 6) := by omega
              split
              · refine plain_other hk ?_ ?_ ?_ (by decide) <;> (unfold armS; split <;> rfl)
              · split
                · exact plain_other hk rfl rfl rfl (hasE_12 _ _)
                · exact plain_other hk rfl rfl rfl (by decide)
theorem get_errW (s : DS) (e : Int) (g : DS → DS) (k : List UInt8) (hg : ∀ s, getF k (g s).fs = getF k s.fs) : getF k (errW s e g).1.fs = getF k s.fs := by
  unfold errW
  split
  · rfl
  · split
    · rfl
    · split
      · rw [fallS_fs]
      · show getF k (g _).fs = _; rw [hg, fallS_fs]
/-- Other files stay. -/
theorem does_apart (s : DS) (o : OpV) (h8 : o.k ≠ 8) (k : List UInt8) (h1 : k ≠ o.nm) (h2 : k ≠ o.tn) : getF k (doesS s o).1.fs = getF k s.fs := by
  unfold doesS
  split
  · exact get_errW _ _ _ _ fun _ => get_ins_other h1 _
  · split
    · unfold appendS
      split
      · rfl
      · show getF k (updF _ _ s.fs) = _; exact get_upd_other _ (fun _ => rfl) h1
    · split
      · exact get_errW _ _ _ _ fun _ => get_upd_other _ (fun _ => rfl) h1
      · split
        · exact get_errW _ _ _ _ fun _ => get_upd_other _ (fun _ => rfl) h1
        · split
          · refine get_errW _ _ _ _ fun s' => ?_
            show getF k (renL _ _ s'.fs) = _
            unfold renL
            split
            · rfl
            · split
              · rfl
              · rw [get_ins_other h2, get_del_other h2, get_del_other h1]
          · split
            · exact get_errW _ _ _ _ fun _ => get_del_other h1
            · split
              · show getF k (armS _ _).fs = _
                unfold armS; split <;> rfl
              · split <;> rfl
theorem get_of_mem {l : List Fl} (hs : Srt l) {f : Fl} (hf : f ∈ l) : getF f.nm l = some f := by
  obtain ⟨g, hg⟩ : ∃ g, getF f.nm l = some g := by
    cases h : getF f.nm l with
    | none => exact absurd rfl (getF_none h f hf)
    | some g => exact ⟨g, rfl⟩
  obtain ⟨h1, h2⟩ := getF_some hg
  rw [hg, srt_one hs h1 hf h2]
end Go.Proofs.YtkinhilkmjfjhaaGreat
