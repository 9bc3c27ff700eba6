/-
  Plain laws for the reference's disk: put and drop by places; rows of files cut and joined.
-/
import Derived.Test.YtdbfkneklkdnaaaE29
namespace Go.Proofs.Ytdbfkneklkdnaaa
open Go.RowKit Go.Maps Go.Sort
set_option maxRecDepth 100000

theorem flatF_append : ∀ (l m : List Fl) (vs us : List Value), vs.length = l.length → flatF (l ++ m) (vs ++ us) = flatF l vs ++ flatF m us
  | [], m, [], us, _ => rfl
  | g :: r, m, v :: vs, us, h => by
    show cellF g v ++ flatF (r ++ m) (vs ++ us) = (cellF g v ++ flatF r vs) ++ flatF m us
    rw [flatF_append r m vs us (by simpa using h), List.append_assoc]
  | [], _, _ :: _, _, h => by simp at h
  | _ :: _, _, [], _, h => by simp at h
theorem flatF_drop : ∀ (l : List Fl) (vs : List Value) (k : Nat), vs.length = l.length → (flatF l vs).drop (k * 3) = flatF (l.drop k) (vs.drop k)
  | _, _, 0, _ => by simp
  | [], [], k + 1, _ => by simp [flatF]
  | g :: r, v :: vs, k + 1, h => by
    show (cellF g v ++ flatF r vs).drop ((k + 1) * 3) = flatF (r.drop k) (vs.drop k)
    rw [← flatF_drop r vs k (by simpa using h), List.drop_append, List.drop_eq_nil_of_le (by simp [cellF]; omega)]
    simp [cellF]
    congr 1; omega
  | [], _ :: _, _ + 1, h => by simp at h
  | _ :: _, [], _ + 1, h => by simp at h
theorem flatF_take : ∀ (l : List Fl) (vs : List Value) (k : Nat), vs.length = l.length → (flatF l vs).take (k * 3) = flatF (l.take k) (vs.take k)
  | _, _, 0, _ => by simp [flatF]
  | [], [], k + 1, _ => by simp [flatF]
  | g :: r, v :: vs, k + 1, h => by
    show (cellF g v ++ flatF r vs).take ((k + 1) * 3) = cellF g v ++ flatF (r.take k) (vs.take k)
    rw [← flatF_take r vs k (by simpa using h), List.take_append, List.take_of_length_le (by simp [cellF]; omega)]
    congr 2
    simp [cellF]; omega
  | [], _ :: _, _ + 1, h => by simp at h
  | _ :: _, [], _ + 1, h => by simp at h
theorem flatF_cells {l : List Fl} {vs : List Value} (hl : vs.length = l.length) {k : Nat} {f : Fl} {u : Value} (hf : l[k]? = some f) (hu : vs[k]? = some u) : ((flatF l vs).drop (k * 3)).take 3 = cellF f u := by
  rw [flatF_drop l vs k hl]
  obtain ⟨h1, e1⟩ := List.getElem?_eq_some_iff.1 hf
  obtain ⟨h2, e2⟩ := List.getElem?_eq_some_iff.1 hu
  rw [List.drop_eq_getElem_cons h1, List.drop_eq_getElem_cons h2, e1, e2]
  simp [flatF, cellF]
/-- put, by places. -/
theorem ins_split (f : Fl) : ∀ (l : List Fl) (k : Nat), (∀ g ∈ l, g.nm ≠ f.nm) → k ≤ l.length → (∀ g ∈ l.take k, bB g.nm f.nm = true) → (∀ g, l[k]? = some g → bB g.nm f.nm = false) → insF f l = l.take k ++ f :: l.drop k
  | [], k, _, hk, _, _ => by
    have : k = 0 := by simpa using hk
    subst this; rfl
  | y :: r, 0, hn, _, _, h => by
    have h1 := h y rfl
    have h2 : bB f.nm y.nm = true := by
      rcases bB_total (hn y (by simp)) with h' | h'
      · rw [h1] at h'; cases h'
      · exact h'
    unfold insF
    rw [if_pos h2]; rfl
  | y :: r, k + 1, hn, hk, ht, h => by
    have h1 := ht y (by simp)
    unfold insF
    rw [if_neg (by rw [bB_asymm h1]; decide), ins_split f r k (fun g hg => hn g (by simp [hg])) (by simpa using hk) (fun g hg => ht g (by simp [hg])) (fun g hg => h g (by simpa using hg))]
    rfl
/-- drop, by places. -/
theorem del_split {l : List Fl} (hs : Srt l) {k : Nat} {f : Fl} (hf : l[k]? = some f) : delF f.nm l = l.take k ++ l.drop (k + 1) := by
  obtain ⟨h1, e1⟩ := List.getElem?_eq_some_iff.1 hf
  have hl : l = l.take k ++ f :: l.drop (k + 1) := by rw [← e1, ← List.drop_eq_getElem_cons h1, List.take_append_drop]
  have hs' := hs
  rw [hl] at hs'
  have p1 := List.pairwise_append.1 hs'
  have p2 := List.pairwise_cons.1 p1.2.1
  conv => lhs; rw [hl]
  unfold delF
  rw [List.filter_append, List.filter_cons_of_neg (by simp), List.filter_eq_self.2, List.filter_eq_self.2]
  · intro g hg
    have := bB_ne (p2.1 g hg)
    simpa using this.symm
  · intro g hg
    have := bB_ne (p1.2.2 g hg f (by simp))
    simpa using this
/-- A list without one place, up to a place. -/
def skp {α : Type} (l : List α) (k n : Nat) : List α := if n ≤ k then l.take n else l.take k ++ (l.drop (k + 1)).take (n - k - 1)
theorem skp_zero {α : Type} (l : List α) (k : Nat) : skp l k 0 = [] := by unfold skp; simp
theorem skp_here {α : Type} (l : List α) (k : Nat) : skp l k (k + 1) = skp l k k := by
  unfold skp
  rw [if_neg (by omega), if_pos (Nat.le_refl _), show k + 1 - k - 1 = 0 by omega]; simp
theorem skp_next {α : Type} {l : List α} {k n : Nat} {x : α} (hx : l[n]? = some x) (hne : n ≠ k) : skp l k (n + 1) = skp l k n ++ [x] := by
  unfold skp
  have hn := (List.getElem?_eq_some_iff.1 hx).1
  rcases Nat.lt_or_ge n k with h | h
  · rw [if_pos (by omega), if_pos (by omega), List.take_add_one, hx]; rfl
  · rw [if_neg (by omega), if_neg (by omega), show n + 1 - k - 1 = (n - k - 1) + 1 by omega, List.take_add_one, List.getElem?_drop, show k + 1 + (n - k - 1) = n by omega, hx, List.append_assoc]; rfl
theorem skp_all {α : Type} {l : List α} {k : Nat} (hk : k < l.length) : skp l k l.length = l.take k ++ l.drop (k + 1) := by
  unfold skp
  rw [if_neg (by omega)]
  congr 1
  exact List.take_of_length_le (by rw [List.length_drop]; omega)
theorem skp_len {α β : Type} {l : List α} {m : List β} (h : l.length = m.length) (k n : Nat) : (skp l k n).length = (skp m k n).length := by
  unfold skp; split <;> simp [h]
/-- What lies at a place of a list without one place. -/
theorem skp_mem {α β : Type} {l : List α} {m : List β} (h : l.length = m.length) {k n i : Nat} {x : α} {y : β} (h1 : (skp l k n)[i]? = some x) (h2 : (skp m k n)[i]? = some y) : ∃ j : Nat, l[j]? = some x ∧ m[j]? = some y := by
  unfold skp at h1 h2
  by_cases hnk : n ≤ k
  · rw [if_pos hnk] at h1 h2
    rw [List.getElem?_take] at h1 h2
    split at h1
    · rename_i hh; rw [if_pos hh] at h2; exact ⟨i, h1, h2⟩
    · cases h1
  · rw [if_neg hnk] at h1 h2
    rcases Nat.lt_or_ge i (l.take k).length with hi | hi
    · rw [List.getElem?_append_left hi] at h1
      rw [List.getElem?_append_left (by simp at hi ⊢; omega)] at h2
      rw [List.getElem?_take] at h1 h2
      split at h1
      · rename_i hh; rw [if_pos hh] at h2; exact ⟨i, h1, h2⟩
      · cases h1
    · rw [List.getElem?_append_right hi] at h1
      rw [List.getElem?_append_right (by simp at hi ⊢; omega)] at h2
      have e : (l.take k).length = (m.take k).length := by simp [h]
      rw [← e] at h2
      rw [List.getElem?_take] at h1 h2
      split at h1
      · rename_i hh; rw [if_pos hh] at h2
        rw [List.getElem?_drop] at h1 h2
        exact ⟨_, h1, h2⟩
      · cases h1
end Go.Proofs.Ytdbfkneklkdnaaa
