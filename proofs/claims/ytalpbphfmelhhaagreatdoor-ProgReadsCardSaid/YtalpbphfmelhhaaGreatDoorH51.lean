/-
  What hangs on what is read (plain, for ProgReads). Written by a program (lw9.py).
-/
import Derived.Test.YtalpbphfmelhhaaGreatDoorH46
namespace Go.Proofs.YtalpbphfmelhhaaGreatDoor
open Go.RowKit Go.Maps Go.Sort
set_option maxRecDepth 100000
attribute [local go_sem] bs_size bs_get bs_toList frombits tobits run_store_float
def otherP (ks : List (List UInt8)) (mo : List SnP) : List SnP := mo.filter fun s => !(ks.any fun k => k == s.key)
def turn1 (sn : List SnP) (k : List UInt8) : Option SnP := (sn.find? fun s => s.key == k).map fun s => ⟨s.key, s.v, 0, 0, 0⟩
def turnP (ks : List (List UInt8)) (sn : List SnP) : List SnP := ks.filterMap (turn1 sn)
theorem turn1_key {sn : List SnP} {k : List UInt8} {s : SnP} (h : turn1 sn k = some s) : s.key = k := by
  unfold turn1 at h
  obtain ⟨x, hx, rfl⟩ := Option.map_eq_some_iff.1 h
  simpa using List.find?_some hx
theorem turn_find (sn : List SnP) (k : List UInt8) : ∀ l : List (List UInt8), (turnP l sn).find? (fun s => s.key == k) = if k ∈ l then turn1 sn k else none
  | [] => by simp [turnP]
  | x :: l => by
    have ih := turn_find sn k l
    unfold turnP at ih ⊢
    rw [List.filterMap_cons]
    cases hx : turn1 sn x with
    | none =>
      simp only
      rw [ih]
      by_cases hk : k = x
      · subst hk; rw [hx]; simp
      · by_cases hl : k ∈ l
        · rw [if_pos hl, if_pos (by simp [hl])]
        · rw [if_neg hl, if_neg (by simp [hl, hk])]
    | some s =>
      simp only
      have hs := turn1_key hx
      rw [List.find?_cons]
      by_cases hk : x = k
      · subst hk
        rw [show (s.key == x) = true by rw [hs]; simp, if_pos (by simp), hx]
      · rw [show (s.key == k) = false by rw [hs]; simpa using hk]
        simp only
        rw [ih]
        by_cases hl : k ∈ l
        · rw [if_pos hl, if_pos (by simp [hl])]
        · rw [if_neg hl, if_neg (fun h => (List.mem_cons.1 h).elim (fun e => hk e.symm) hl)]
theorem agree_turn (ks : List (List UInt8)) (sn mo : List SnP) : AgreeK ks sn (otherP ks mo ++ turnP ks.reverse sn) := fun k hk => by
  have h1 : (otherP ks mo).find? (fun s => s.key == k) = none := by
    rw [List.find?_eq_none]
    intro s hs
    unfold otherP at hs
    rw [List.mem_filter] at hs
    intro e
    have e' : s.key = k := by simpa using e
    have h2 := hs.2
    rw [e', Bool.not_eq_true', List.any_eq_false] at h2
    exact h2 k hk (by simp)
  rw [List.find?_append, h1, Option.none_or, turn_find, if_pos (by simpa using hk)]
  unfold turn1
  rw [Option.map_map]
  rfl
theorem other_snoc {ks : List (List UInt8)} {mo : List SnP} {j : Nat} {s : SnP} (h : mo[j]? = some s) : otherP ks (mo.take (j + 1)) = if ks.any (fun k => k == s.key) then otherP ks (mo.take j) else otherP ks (mo.take j) ++ [s] := by
  unfold otherP
  rw [take_snoc h, List.filter_append]
  cases hh : ks.any fun k => k == s.key with
  | true => rw [if_pos rfl, List.filter_cons_of_neg (p := fun s : SnP => !(ks.any fun k => k == s.key)) (a := s) (show ¬ (!(ks.any fun k => k == s.key)) = true by rw [hh]; simp), List.filter_nil, List.append_nil]
  | false => rw [if_neg (by simp), List.filter_cons_of_pos (p := fun s : SnP => !(ks.any fun k => k == s.key)) (a := s) (show (!(ks.any fun k => k == s.key)) = true by rw [hh]; rfl), List.filter_nil]
theorem turn_snoc {ks : List (List UInt8)} {sn : List SnP} {j : Nat} {y : List UInt8} (h : ks[j]? = some y) : turnP (ks.take (j + 1)) sn = turnP (ks.take j) sn ++ (turn1 sn y).toList := by
  unfold turnP
  rw [take_snoc h, List.filterMap_append]
  refine congrArg _ ?_
  rw [List.filterMap_cons]
  cases turn1 sn y <;> rfl
theorem find_at {sn : List SnP} {y : List UInt8} {j : Nat} {s : SnP} (h0 : (sn.take j).find? (fun s => s.key == y) = none) (h : sn[j]? = some s) (he : (s.key == y) = true) : turn1 sn y = some ⟨s.key, s.v, 0, 0, 0⟩ := by
  have e : sn.find? (fun s => s.key == y) = some s := by
    obtain ⟨hl, hg⟩ := List.getElem?_eq_some_iff.1 h
    have hd : sn = sn.take j ++ (s :: sn.drop (j + 1)) := by
      rw [← hg, ← List.drop_eq_getElem_cons hl, List.take_append_drop]
    rw [hd, List.find?_append, h0, Option.none_or, List.find?_cons, he]
  unfold turn1
  rw [e]; rfl
theorem find_next {sn : List SnP} {y : List UInt8} {j : Nat} {s : SnP} (h0 : (sn.take j).find? (fun s => s.key == y) = none) (h : sn[j]? = some s) (he : (s.key == y) = false) : (sn.take (j + 1)).find? (fun s => s.key == y) = none := by
  rw [take_snoc h, List.find?_append, h0, Option.none_or, List.find?_cons, he]; rfl
theorem find_no {sn : List SnP} {y : List UInt8} (h0 : (sn.take sn.length).find? (fun s => s.key == y) = none) : turn1 sn y = none := by
  rw [List.take_length] at h0
  unfold turn1
  rw [h0]; rfl
theorem OwnS.below {w w' : World} {base : Nat} {v : Value} {l : List SnP} (h : OwnS w base v l) (hb : Below w.heap.size w w') : OwnS w' base v l := ownsRow_keep h fun k hk => hb.block k (World.ownsRow.lt h k hk).2
def BlG (w0 w : World) : Prop := Below w0.heap.size w0 w
theorem BlG.below {w0 w w' : World} (h : BlG w0 w) (hb : Below w.heap.size w w') : BlG w0 w' := Below.trans h (hb.mono (Below.size h))
theorem flat_one {α : Type} {enc : α → List Value} (h1 : ∀ x, ∀ u ∈ enc x, u.oneCell' = true) (l : List α) : ∀ u ∈ flatE enc l, u.oneCell' = true := by
  intro u hu
  unfold flatE at hu
  obtain ⟨x, _, hx⟩ := List.mem_flatMap.1 hu
  exact h1 x u hx
theorem other_ok {ks : List (List UInt8)} {mo sn : List SnP} (hm : ∀ s ∈ mo, SnOk s) (hs : ∀ s ∈ sn, SnOk s) (qs : List (List UInt8)) : ∀ s ∈ otherP ks mo ++ turnP qs sn, SnOk s := by
  intro s h
  rcases List.mem_append.1 h with h | h
  · unfold otherP at h
    exact hm s (List.mem_filter.1 h).1
  · unfold turnP at h
    obtain ⟨k, _, h⟩ := List.mem_filterMap.1 h
    unfold turn1 at h
    obtain ⟨x, hx, rfl⟩ := Option.map_eq_some_iff.1 h
    have h9 := hs x (List.mem_of_find?_eq_some hx)
    exact ⟨h9.kl, h9.sl⟩
theorem run_gen (p : List OpP) (sn : List SnP) : (∀ q ∈ runW p sn, q.1 ∈ namesP p ∧ Vl.may q.2 = true) ∧ (∀ (i : Nat) (x y : List UInt8 × Vl), (runW p sn)[i]? = some x → (runW p sn)[i + 1]? = some y → bB x.1 y.1 = true) ∧ (runE p sn ≠ 0 → (runW p sn).length = 0) ∧ (runE p sn = 0 → (runW p sn).length = (namesP p).length) := by
  by_cases h : runE p sn = 0
  · obtain ⟨h1, h2, h3⟩ := run_facts h
    refine ⟨fun q hq => ⟨by rw [← h2]; exact List.mem_map_of_mem hq, h3 q hq⟩, fun i x y hx hy => ?_, fun h' => absurd h h', fun _ => by rw [← h2, List.length_map]⟩
    obtain ⟨a1, a2⟩ := List.getElem?_eq_some_iff.1 hx
    obtain ⟨b1, b2⟩ := List.getElem?_eq_some_iff.1 hy
    have h4 := List.pairwise_iff_getElem.1 h1 i (i + 1) a1 b1 (by omega)
    rw [a2, b2] at h4
    exact h4
  · rw [runW_err h]
    exact ⟨fun q hq => (by cases hq), fun i x y hx _ => (by simp at hx), fun _ => rfl, fun h' => absurd h' h⟩
theorem rev_at {ks : List (List UInt8)} {i : Nat} (hi : i < ks.length) : ks.reverse[i]? = ks[ks.length - 1 - i]? := by
  rw [List.getElem?_reverse hi]
end Go.Proofs.YtalpbphfmelhhaaGreatDoor
