/-
  What a proof's frame (proof-skeleton.mjs) tells of a slice of integers, read as bytes.
  What a proof's frame tells of slices that came in, whatever their elements: the cells, and each element's reading.
-/
import Derived.Test.YtalpbphfmelhhaaGreatDoorK1
import Derived.ProofKit
import Derived.OpenShut
import Derived.ShutString
import Derived.ChangeOld
import Derived.Deep.Matrix
import Derived.Laws.Cover2
/-! ### What a proof's frame (proof-skeleton.mjs) tells of a slice of integers, read as bytes. -/
namespace Go.Proofs.YtalpbphfmelhhaaGreatDoor
open Go.ChangeShapes Go.WideShapes Go.ChangeAt Go.RowKit

/-- WHAT THE WALK IS TOLD OF A SLICE OF INTEGERS THAT CAME IN: it is nil; or it leads to a row of 'cap' cells, the numbers 'zs' (the first 'len' are its elements, the rest its spare room), each fitting its kind. -/
def IsRow (k : IntKind) (w : World) (a : Option Addr) (len cap : Nat) (zs : List Int) : Prop :=
  (a = none ∧ len = 0 ∧ cap = 0 ∧ zs = []) ∨
  ∃ x, a = some x ∧ len ≤ cap ∧ cap ≤ maxLen ∧ zs.length = cap ∧ (∀ i, i < zs.length → w.cell? (x.add i) = some (.int k (zs.getD i 0))) ∧ ∀ n ∈ zs, (Lit.int k n).wf = true

end Go.Proofs.YtalpbphfmelhhaaGreatDoor

/-! ### What a proof's frame tells of slices that came in, whatever their elements: the cells, and each element's reading. -/
namespace Go.Proofs.YtalpbphfmelhhaaGreatDoor
open Go.ChangeShapes Go.WideShapes Go.ChangeAt Go.RowKit

theorem mapM_get {α β : Type} {f : α → Option β} : ∀ {l : List α} {r : List β}, l.mapM f = some r → ∀ (i : Nat) (a : α), l[i]? = some a → ∃ b, r[i]? = some b ∧ f a = some b
  | [], _, _, i, a, ha => by simp at ha
  | x :: l, r, h, i, a, ha => by
    simp only [List.mapM_cons, Option.bind_eq_bind, Option.bind_eq_some_iff, Option.pure_def, Option.some.injEq] at h
    obtain ⟨b, hb, r', hr', rfl⟩ := h
    cases i with
    | zero =>
      simp only [List.getElem?_cons_zero, Option.some.injEq] at ha
      subst ha
      exact ⟨b, rfl, hb⟩
    | succ i => exact mapM_get hr' i a (by simpa using ha)
theorem mapM_len {α β : Type} {f : α → Option β} : ∀ {l : List α} {r : List β}, l.mapM f = some r → r.length = l.length
  | [], r, h => by simp at h; subst h; rfl
  | x :: l, r, h => by
    simp only [List.mapM_cons, Option.bind_eq_bind, Option.bind_eq_some_iff, Option.pure_def, Option.some.injEq] at h
    obtain ⟨b, hb, r', hr', rfl⟩ := h
    simp [mapM_len hr']
/-- The cells at a place. -/
theorem cells_at {w : World} {base : Nat} {a : Addr} {n : Nat} {cs : List Value} (h : w.cells? base a n = some cs) : cs.length = n ∧ ∀ j, j < n → w.cell? (a.add j) = cs[j]? := by
  unfold World.cells? at h
  split at h
  · refine ⟨by simpa using mapM_len h, fun j hj => ?_⟩
    obtain ⟨b, hb, hf⟩ := mapM_get h j j (by simp [hj])
    rw [hb, hf]
  · cases h
theorem Addr.add_add (a : Addr) (i j : Nat) (hs : a.spot = none) : (a.add i).add j = a.add (i + j) := by
  obtain ⟨b, o, s⟩ := a
  have hs : s = none := hs
  subst hs
  rw [Addr.add_none, Addr.add_none, Addr.add_none, Nat.add_assoc]

/-- A slice that came in: its cells, and that each element reads. -/
theorem rd_open {H : Type} {enc : TypeId × Value → H} {P : Program} {w : World} {base : Nat} {sp : Nat → Bool} {held : Bool} {t e : TypeId} {fuel size : Nat} {a : Option Addr} {len cap : Nat} {x : DataW H × List MemPlace}
    (ht : P.underlying t = some (.slice e)) (hc : P.cellsOf e = size) (hpos : 0 < size)
    (h : DataW.trod enc P w base sp held fuel t (Value.slice a len cap).cells.toList = some x) :
    ∃ xs, Rd w a len cap size xs ∧ ∃ m, ∀ i, i < len → ∃ y, DataW.trod enc P w base sp held m e ((xs.drop (i * size)).take size) = some y := by
  rcases DataW.trod_slice ht h with ⟨hcs, _⟩ | ⟨a', len', cap', elems, rest, m, _, hcs, _, _, hl, hm, hlen, hel, _⟩
  · simp [Value.cells] at hcs
    obtain ⟨rfl, rfl, rfl⟩ := hcs
    exact ⟨[], Rd.nil _ _, 0, fun i hi => absurd hi (Nat.not_lt_zero _)⟩
  · simp [Value.cells] at hcs
    obtain ⟨rfl, rfl, rfl⟩ := hcs
    rw [hc] at hel
    by_cases h0 : len = 0
    · subst h0
      exact ⟨[], ⟨Nat.zero_le _, hm, (fun h => by cases h), by simp, by simp⟩, 0, fun i hi => absurd hi (Nat.not_lt_zero _)⟩
    have hget : ∀ i, i < len → ∃ cs y, w.cells? base (a'.add (i * size)) size = some cs ∧ DataW.trod enc P w base sp held m e cs = some y := by
      intro i hi
      have hE := hel i hi
      have : ∃ z, elems[i]? = some z := ⟨elems[i]'(by omega), List.getElem?_eq_getElem (by omega)⟩
      obtain ⟨z, hz⟩ := this
      rw [hz, Option.bind_eq_some_iff] at hE
      obtain ⟨cs, h1, h2⟩ := hE
      exact ⟨cs, z, h1, h2⟩
    have hspot : a'.spot = none := by
      obtain ⟨cs, y, h1, _⟩ := hget 0 (by omega)
      obtain ⟨h2, h3⟩ := cells_at h1
      have h4 := h3 0 hpos
      have : ∃ u, cs[0]? = some u := ⟨cs[0]'(by omega), List.getElem?_eq_getElem (by omega)⟩
      obtain ⟨u, hu⟩ := this
      rw [hu] at h4
      have := World.cell?_spot h4
      simpa [Addr.add] using this
    obtain ⟨b, off, sp'⟩ := a'
    have hsp : sp' = none := hspot
    subst hsp
    have hcell : ∀ i, i < len → ∀ j, j < size → ∃ u, w.cell? ⟨b, off + (i * size + j), none⟩ = some u := by
      intro i hi j hj
      obtain ⟨cs, y, h1, _⟩ := hget i hi
      obtain ⟨h2, h3⟩ := cells_at h1
      have h4 := h3 j hj
      rw [Addr.add_add _ _ _ rfl, Addr.add_none] at h4
      exact ⟨cs[j]'(by omega), by rw [h4]; exact List.getElem?_eq_getElem (by omega)⟩
    let xs : List Value := (List.range (len * size)).map fun k => (w.cell? ⟨b, off + k, none⟩).getD (.bool false)
    have hxl : xs.length = len * size := by simp [xs]
    have hxk : ∀ k, k < len * size → xs[k]? = w.cell? ⟨b, off + k, none⟩ := by
      intro k hk
      have hd : k / size < len := (Nat.div_lt_iff_lt_mul hpos).2 hk
      obtain ⟨u, hu⟩ := hcell (k / size) hd (k % size) (Nat.mod_lt _ hpos)
      have e : k / size * size + k % size = k := by rw [Nat.mul_comm]; exact Nat.div_add_mod k size
      rw [e] at hu
      simp [xs, hk, hu]
    refine ⟨xs, ⟨hl, hm, (fun h => by cases h), hxl, fun j u hj => ⟨b, off, rfl, ?_⟩⟩, m, fun i hi => ?_⟩
    · have hjl : j < len * size := by
        rcases Nat.lt_or_ge j (len * size) with h | h
        · exact h
        · rw [List.getElem?_eq_none (by omega)] at hj; cases hj
      rw [← hxk j hjl]; exact hj
    · obtain ⟨cs, y, h1, h2⟩ := hget i hi
      refine ⟨y, ?_⟩
      obtain ⟨h3, h4⟩ := cells_at h1
      have : (xs.drop (i * size)).take size = cs := by
        apply List.ext_getElem?
        intro j
        rw [List.getElem?_take]
        by_cases hj : j < size
        · rw [if_pos hj, List.getElem?_drop]
          have hb : i * size + j < len * size := by
            have : (i + 1) * size ≤ len * size := Nat.mul_le_mul_right _ (by omega)
            rw [Nat.add_mul, Nat.one_mul] at this; omega
          rw [hxk _ hb, ← h4 j hj, Addr.add_add _ _ _ rfl, Addr.add_none]
        · rw [if_neg hj, List.getElem?_eq_none (by omega)]
      rw [this]; exact h2
theorem trod_float {H : Type} {enc : TypeId × Value → H} {P : Program} {w : World} {base : Nat} {sp : Nat → Bool} {held : Bool} {t : TypeId} {fuel : Nat} {cs : List Value} {x : DataW H × List MemPlace} {k : FloatKind}
    (ht : P.underlying t = some (.float k)) (h : DataW.trod enc P w base sp held fuel t cs = some x) : ∃ n, cs = [.float k n] ∧ (Lit.float k n).wf = true := by
  cases fuel with
  | zero => simp [DataW.trod] at h
  | succ n =>
    unfold DataW.trod at h
    rw [ht] at h
    split at h <;> simp_all
end Go.Proofs.YtalpbphfmelhhaaGreatDoor
