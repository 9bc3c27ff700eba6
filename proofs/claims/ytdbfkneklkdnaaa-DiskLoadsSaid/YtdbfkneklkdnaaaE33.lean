/-
  The reference's disk: a place of its row written; what writes come to.
-/
import Derived.Test.YtdbfkneklkdnaaaE32
namespace Go.Proofs.Ytdbfkneklkdnaaa
open Go.RowKit Go.Maps Go.Sort
set_option maxRecDepth 100000
attribute [local go_sem] bs_size bs_toList

theorem flatF_set1 (d : List UInt8) (u : Value) : ∀ (l : List Fl) (vs : List Value) (k : Nat) (f : Fl), l[k]? = some f → vs.length = l.length → (flatF l vs).set (k * 3 + 1) u = flatF (l.set k ⟨f.nm, d, f.sf⟩) (vs.set k u)
  | [], _, k, f, h, _ => by simp at h
  | _ :: _, [], k, f, _, h => by simp at h
  | g :: r, v :: vs, 0, f, h, _ => by
    simp at h; subst h
    show (cellF g v ++ flatF r vs).set 1 u = cellF _ u ++ flatF r vs
    simp [cellF]
  | g :: r, v :: vs, k + 1, f, h, hl => by
    have ih := flatF_set1 d u r vs k f (by simpa using h) (by simpa using hl)
    show (cellF g v ++ flatF r vs).set ((k + 1) * 3 + 1) u = cellF g v ++ flatF (r.set k _) (vs.set k u)
    rw [← ih, List.set_append, if_neg (by simp [cellF]; omega)]
    congr 2
    simp [cellF]; omega
theorem flatF_set2 (sf : Nat) : ∀ (l : List Fl) (vs : List Value) (k : Nat) (f : Fl), l[k]? = some f → vs.length = l.length → (flatF l vs).set (k * 3 + 2) (.int .i64 (sf : Nat)) = flatF (l.set k ⟨f.nm, f.dt, sf⟩) vs
  | [], _, k, f, h, _ => by simp at h
  | _ :: _, [], k, f, _, h => by simp at h
  | g :: r, v :: vs, 0, f, h, _ => by
    simp at h; subst h
    show (cellF g v ++ flatF r vs).set 2 _ = cellF _ v ++ flatF r vs
    simp [cellF]
  | g :: r, v :: vs, k + 1, f, h, hl => by
    have ih := flatF_set2 sf r vs k f (by simpa using h) (by simpa using hl)
    show (cellF g v ++ flatF r vs).set ((k + 1) * 3 + 2) _ = cellF g v ++ flatF (r.set k _) vs
    rw [← ih, List.set_append, if_neg (by simp [cellF]; omega)]
    congr 2
    simp [cellF]; omega
theorem upd_set {l : List Fl} (hs : Srt l) {k : Nat} {f : Fl} (hf : l[k]? = some f) (g : Fl → Fl) : updF f.nm g l = l.set k (g f) := by
  obtain ⟨h1, e1⟩ := List.getElem?_eq_some_iff.1 hf
  have hl : l = l.take k ++ f :: l.drop (k + 1) := by rw [← e1, ← List.drop_eq_getElem_cons h1, List.take_append_drop]
  rw [List.set_eq_take_append_cons_drop, if_pos h1]
  conv => lhs; rw [hl]
  rw [upd_mid (by rw [← hl]; exact hs)]
theorem Rf.grow {w : World} {c : Nat} {S S' : Nat → Prop} {s : DS} (h : Rf w c S s) (hs : ∀ q, S q → S' q) (hl : ∀ q, S' q → q < w.heap.size) : Rf w c S' s := by
  obtain ⟨v, vs, hc, hvl, hr, hS, hv, hlt, hd⟩ := h
  refine ⟨v, vs, hc, hvl, hr, hs _ hS, fun k hk => ⟨hs _ (hv k hk).1, (hv k hk).2⟩, hl, fun i f u hf hu => ?_⟩
  obtain ⟨ai, ci, e, h8, hb⟩ := hd i f u hf hu
  exact ⟨ai, ci, e, h8, fun h0 b hb' => ⟨hs _ (hb h0 b hb').1, (hb h0 b hb').2⟩⟩
theorem Rf.lt {w : World} {c : Nat} {S : Nat → Prop} {s : DS} (h : Rf w c S s) : ∀ q, S q → q < w.heap.size := by obtain ⟨_, _, _, _, _, _, _, hlt, _⟩ := h; exact hlt
theorem Rf.in {w : World} {c : Nat} {S : Nat → Prop} {s : DS} (h : Rf w c S s) : S c := by obtain ⟨_, _, _, _, _, hS, _⟩ := h; exact hS
/-- A file of the reference's disk, as it lies. -/
theorem Rf.view {w : World} {c : Nat} {S : Nat → Prop} {s : DS} (h : Rf w c S s) {k : Nat} {f : Fl} (hf : s.fs[k]? = some f) : ∃ b cap aj cj, w.heap[c]? = some (.cells #[.slice (some ⟨b, 0, none⟩) s.fs.length cap, .bool s.dn, .int .i64 s.ar, .int .i64 s.wr] 51 (0, 0)) ∧
    w.cell? ⟨b, k * 3, none⟩ = some (.string (bs f.nm)) ∧ w.cell? ⟨b, k * 3 + 1, none⟩ = some (.slice aj f.dt.length cj) ∧ w.cell? ⟨b, k * 3 + 2, none⟩ = some (.int .i64 (f.sf : Nat)) ∧ w.frozen? ⟨b, k * 3 + 1, none⟩ = false ∧ w.frozen? ⟨b, k * 3 + 2, none⟩ = false ∧
    Rd8 w aj f.dt.length cj f.dt ∧ (BlkIn aj f.dt.length fun q => S q ∧ q ≠ c ∧ q ≠ b) ∧ b ≠ c ∧ S b := by
  obtain ⟨v, vs, hc, hl, hr, hS, hv, hlt, hd⟩ := h
  have hk := (List.getElem?_eq_some_iff.1 hf).1
  obtain ⟨u, hu⟩ : ∃ u, vs[k]? = some u := ⟨_, List.getElem?_eq_getElem (by omega)⟩
  obtain ⟨aj, cj, rfl, h8, hb⟩ := hd k f u hf hu
  obtain ⟨g1, g2, g3⟩ := flatF_get s.fs vs k f _ hf hu
  obtain ⟨h1, h2⟩ := hr
  rcases h2 with ⟨rfl, h2⟩ | ⟨g, cap, cur, rfl, hb0, hg, hnc, hcm, hcs, ht⟩
  · rw [h2] at hk; omega
  · have hcur : ∀ j x, (flatF s.fs vs)[j]? = some x → w.cell? ⟨g, j, none⟩ = some x := fun j x hx => by
      rw [cell_of_row w g j _ _ _ hg]
      rw [← ht, List.getElem?_take] at hx
      split at hx
      · simpa using hx
      · cases hx
    refine ⟨g, cap, aj, cj, hc, ?_, ?_, ?_, frozen_of_row w g _ _ _ hg, frozen_of_row w g _ _ _ hg, h8, fun h0 q hq => ⟨(hb h0 q hq).1, (hb h0 q hq).2.1, fun e => (hb h0 q hq).2.2 (by rw [e]; rfl)⟩, (hv g rfl).2, (hv g rfl).1⟩
    · rw [Nat.mul_comm]; exact hcur _ _ g1
    · rw [Nat.mul_comm]; exact hcur _ _ g2
    · rw [Nat.mul_comm]; exact hcur _ _ g3
/-- A file's bytes written. -/
theorem Rf.setD {w : World} {c : Nat} {S : Nat → Prop} {s : DS} (h : Rf w c S s) {k : Nat} {f : Fl} (hf : s.fs[k]? = some f) {b n cap : Nat} (hb : w.cell? ⟨c, 0, none⟩ = some (.slice (some ⟨b, 0, none⟩) n cap)) {d : List UInt8} {aj : Option Addr} {cj : Nat}
    (h8 : Rd8 w aj d.length cj d) (hbl : BlkIn aj d.length fun q => S q ∧ q ≠ c ∧ q ≠ b) : Rf (w.setCell ⟨b, k * 3 + 1, none⟩ (.slice aj d.length cj)) c S { s with fs := s.fs.set k ⟨f.nm, d, f.sf⟩ } := by
  obtain ⟨v, vs, hc, hl, hr, hS, hv, hlt, hd⟩ := h
  have hk := (List.getElem?_eq_some_iff.1 hf).1
  have hvb : v = .slice (some ⟨b, 0, none⟩) n cap := by
    have := cell_of_row w c 0 _ _ _ hc
    rw [hb] at this; simpa using this.symm
  subst hvb
  have hbc : b ≠ c := (hv b rfl).2
  have fr : Fr (fun q => q = b) w (w.setCell ⟨b, k * 3 + 1, none⟩ (.slice aj d.length cj)) := (Fr.refl (fun q => q = b) w).setCell (fun _ => rfl) _
  refine ⟨_, vs.set k (.slice aj d.length cj), (fr.block c (hlt c hS) (fun e => hbc e.symm)).trans hc, by simpa using hl, ?_, hS, hv, fun q hq => Nat.lt_of_lt_of_le (hlt q hq) fr.size, fun i g u hg hu => ?_⟩
  · obtain ⟨h1, h2⟩ := hr
    rcases h2 with ⟨h2, _⟩ | ⟨g, cap', cur, h2, hb0, hg, hnc, hcm, hcs, ht⟩
    · cases h2
    · simp at h2
      obtain ⟨rfl, rfl, rfl⟩ := h2
      refine ⟨by rw [← flatF_set1 d _ _ _ _ _ hf hl]; simpa using h1, .inr ⟨b, cap, cur.setIfInBounds (k * 3 + 1) (.slice aj d.length cj), by simp, by simp, row_set hg rfl, by simpa using hnc, hcm, by simpa using hcs, ?_⟩⟩
      rw [← flatF_set1 d _ _ _ _ _ hf hl, ← ht]
      show List.take _ _ = _
      rw [Array.toList_setIfInBounds, List.length_set, List.take_set]
  · rw [List.getElem?_set] at hg hu
    by_cases e : k = i
    · rw [if_pos e, if_pos hk] at hg
      rw [if_pos e, if_pos (by omega)] at hu
      cases hg; cases hu
      exact ⟨aj, cj, rfl, h8.keep0 fr fun h0 q hq => (hbl h0 q hq).2.2, fun h0 q hq => ⟨(hbl h0 q hq).1, (hbl h0 q hq).2.1, fun e => (hbl h0 q hq).2.2 (by injection e.symm)⟩⟩
    · rw [if_neg e] at hg hu
      obtain ⟨ai, ci, e', h8', hb'⟩ := hd i g u hg hu
      exact ⟨ai, ci, e', h8'.keep0 fr fun h0 q hq e2 => (hb' h0 q hq).2.2 (by rw [e2]; rfl), hb'⟩
/-- A file's safe bytes told anew. -/
theorem Rf.setS {w : World} {c : Nat} {S : Nat → Prop} {s : DS} (h : Rf w c S s) {k : Nat} {f : Fl} (hf : s.fs[k]? = some f) {b n cap : Nat} (hb : w.cell? ⟨c, 0, none⟩ = some (.slice (some ⟨b, 0, none⟩) n cap)) (sf : Nat) :
    Rf (w.setCell ⟨b, k * 3 + 2, none⟩ (.int .i64 (sf : Nat))) c S { s with fs := s.fs.set k ⟨f.nm, f.dt, sf⟩ } := by
  obtain ⟨v, vs, hc, hl, hr, hS, hv, hlt, hd⟩ := h
  have hk := (List.getElem?_eq_some_iff.1 hf).1
  have hvb : v = .slice (some ⟨b, 0, none⟩) n cap := by
    have := cell_of_row w c 0 _ _ _ hc
    rw [hb] at this; simpa using this.symm
  subst hvb
  have hbc : b ≠ c := (hv b rfl).2
  have fr : Fr (fun q => q = b) w (w.setCell ⟨b, k * 3 + 2, none⟩ (.int .i64 (sf : Nat))) := (Fr.refl (fun q => q = b) w).setCell (fun _ => rfl) _
  refine ⟨_, vs, (fr.block c (hlt c hS) (fun e => hbc e.symm)).trans hc, by simpa using hl, ?_, hS, hv, fun q hq => Nat.lt_of_lt_of_le (hlt q hq) fr.size, fun i g u hg hu => ?_⟩
  · obtain ⟨h1, h2⟩ := hr
    rcases h2 with ⟨h2, _⟩ | ⟨g, cap', cur, h2, hb0, hg, hnc, hcm, hcs, ht⟩
    · cases h2
    · simp at h2
      obtain ⟨rfl, rfl, rfl⟩ := h2
      refine ⟨by rw [← flatF_set2 sf _ _ _ _ hf hl]; simpa using h1, .inr ⟨b, cap, cur.setIfInBounds (k * 3 + 2) (.int .i64 (sf : Nat)), by simp, by simp, row_set hg rfl, by simpa using hnc, hcm, by simpa using hcs, ?_⟩⟩
      rw [← flatF_set2 sf _ _ _ _ hf hl, ← ht]
      show List.take _ _ = _
      rw [Array.toList_setIfInBounds, List.length_set, List.take_set]
  · rw [List.getElem?_set] at hg
    by_cases e : k = i
    · rw [if_pos e, if_pos hk] at hg
      cases hg
      subst e
      obtain ⟨ai, ci, e', h8', hb'⟩ := hd k f u hf hu
      exact ⟨ai, ci, e', h8'.keep0 fr fun h0 q hq e2 => (hb' h0 q hq).2.2 (by rw [e2]; rfl), hb'⟩
    · rw [if_neg e] at hg
      obtain ⟨ai, ci, e', h8', hb'⟩ := hd i g u hg hu
      exact ⟨ai, ci, e', h8'.keep0 fr fun h0 q hq e2 => (hb' h0 q hq).2.2 (by rw [e2]; rfl), hb'⟩

/-! ### what a write comes to -/
theorem errW_dn {s : DS} {e : Int} {g : DS → DS} (h : s.dn = true) : errW s e g = (s, 12) := by unfold errW; rw [h]; rfl
theorem errW_err {s : DS} {e : Int} {g : DS → DS} (h : s.dn = false) (he : e ≠ 0) : errW s e g = (s, e) := by unfold errW; rw [h]; simp [he]
theorem errW_fall {s : DS} {e : Int} {g : DS → DS} (h : s.dn = false) (he : e = 0) (hf : (fallS s).2 = true) : errW s e g = ((fallS s).1, 12) := by unfold errW; rw [h, hf]; simp [he]
theorem errW_ok {s : DS} {e : Int} {g : DS → DS} (h : s.dn = false) (he : e = 0) (hf : (fallS s).2 = false) : errW s e g = (g (fallS s).1, 0) := by unfold errW; rw [h, hf]; simp [he]
/-- The reference's disk behind an operation. -/
def RTold (w : World) (c : Nat) (S : Nat → Prop) (r : DS × Int) (e : Ending) (w' : World) : Prop := e = .returned (.int .i64 r.2) ∧ Rf w' c (Sx S w w') r.1 ∧ Fr S w w'
theorem RTold.same {w w' : World} {c : Nat} {S : Nat → Prop} {s : DS} {r : DS × Int} {e : Ending} (he : e = .returned (.int .i64 r.2)) (h : Rf w' c S s) (hr : r.1 = s) (hf : Fr S w w') (hS : ∀ q, S q → q < w.heap.size) : RTold w c S r e w' :=
  ⟨he, by rw [hr]; exact h.grow (fun q hq => .inl hq) (fun q hq => hq.elim (fun h => Nat.lt_of_lt_of_le (hS q h) hf.size) (fun h => h.2)), hf⟩
/-- One deed behind another. -/
theorem Rf.next {w w1 w2 : World} {c : Nat} {S : Nat → Prop} {s : DS} (h : Rf w2 c (Sx S w1 w2) s) (h1 : Fr S w w1) (_h2 : Fr S w1 w2) : Rf w2 c (Sx S w w2) s :=
  h.grow (fun q hq => hq.elim .inl fun h => .inr ⟨Nat.le_trans h1.size h.1, h.2⟩) (fun q hq => by
    rcases hq with hq | hq
    · exact h.lt q (.inl hq)
    · exact hq.2)
theorem Fr.one {S : Nat → Prop} {w w' : World} {c : Nat} (h : Fr (fun k => k = c) w w') (hc : S c) : Fr S w w' := h.mono fun _ _ e => by rw [e]; exact hc
end Go.Proofs.Ytdbfkneklkdnaaa
