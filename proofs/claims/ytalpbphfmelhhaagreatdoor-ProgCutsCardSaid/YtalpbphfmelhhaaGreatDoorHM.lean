/-
  Maps from strings as lists of pairs by rising keys; what the kit's maps say of them. No walk.
-/
import Derived.Test.YtalpbphfmelhhaaGreatDoorKA
import Derived.Test.YtalpbphfmelhhaaGreatDoorProg
import Derived.Maps.OwnSet
import Derived.Sort.KeysCollected
import Derived.WideAt
import Derived.Maps.Ext
namespace Go.Proofs.YtalpbphfmelhhaaGreatDoor
open Go.RowKit Go.Maps Go.Sort
set_option maxRecDepth 100000

def bB (a b : List UInt8) : Bool := bytesBefore a b
theorem bB_irrefl (a : List UInt8) : bB a a = false := WideAt.bytes_irrefl a
theorem bB_total {a b : List UInt8} (h : a ≠ b) : bB a b = true ∨ bB b a = true := WideAt.bytes_total a b h
theorem bB_trans {a b c : List UInt8} (h1 : bB a b = true) (h2 : bB b c = true) : bB a c = true := WideShapes.bytes_trans a b c h1 h2
theorem bB_ne {a b : List UInt8} (h : bB a b = true) : a ≠ b := fun e => by rw [e, bB_irrefl] at h; cases h
theorem bB_asymm {a b : List UInt8} (h : bB a b = true) : bB b a = false := by
  cases h2 : bB b a with
  | false => rfl
  | true => have := bB_trans h h2; rw [bB_irrefl] at this; cases this
theorem bB_lt : ∀ (a b : List UInt8), bB a b = decide (a < b)
  | [], [] => rfl
  | [], b :: s => by simp [bB, bytesBefore]
  | a :: r, [] => by simp [bB, bytesBefore]
  | a :: r, b :: s => by
    have ih := bB_lt r s
    unfold bB at ih ⊢
    rw [bytesBefore, ih, Bool.eq_iff_iff]
    simp [List.cons_lt_cons_iff]
section
variable {α : Type}
def insG (p : List UInt8 × α) : List (List UInt8 × α) → List (List UInt8 × α)
  | [] => [p]
  | y :: r => if bB p.1 y.1 then p :: y :: r else y :: insG p r
def delG (n : List UInt8) (l : List (List UInt8 × α)) : List (List UInt8 × α) := l.filter fun p => !(p.1 == n)
def getG (n : List UInt8) (l : List (List UInt8 × α)) : Option α := (l.find? fun p => p.1 == n).map fun p => p.2
def putG (p : List UInt8 × α) (l : List (List UInt8 × α)) : List (List UInt8 × α) := insG p (delG p.1 l)
def SrtG (l : List (List UInt8 × α)) : Prop := l.Pairwise fun a b => bB a.1 b.1 = true
theorem mem_insG {p q : List UInt8 × α} : ∀ {l : List (List UInt8 × α)}, q ∈ insG p l ↔ q = p ∨ q ∈ l
  | [] => by simp [insG]
  | y :: r => by
    unfold insG
    split
    · simp
    · simp only [List.mem_cons, mem_insG (l := r)]
      constructor
      · rintro (h | h | h) <;> simp [h]
      · rintro (h | h | h) <;> simp [h]
theorem mem_delG {n : List UInt8} {p : List UInt8 × α} {l : List (List UInt8 × α)} : p ∈ delG n l ↔ p ∈ l ∧ p.1 ≠ n := by unfold delG; rw [List.mem_filter]; simp
theorem mem_putG {p q : List UInt8 × α} {l : List (List UInt8 × α)} : q ∈ putG p l ↔ q = p ∨ (q ∈ l ∧ q.1 ≠ p.1) := by unfold putG; rw [mem_insG, mem_delG]
theorem SrtG.ins {p : List UInt8 × α} : ∀ {l : List (List UInt8 × α)}, SrtG l → (∀ q ∈ l, q.1 ≠ p.1) → SrtG (insG p l)
  | [], _, _ => by simp [insG, SrtG]
  | y :: r, h, hp => by
    obtain ⟨h1, h2⟩ := List.pairwise_cons.1 h
    unfold insG
    by_cases hb : bB p.1 y.1 = true
    · rw [if_pos hb]
      refine List.pairwise_cons.2 ⟨fun q hq => ?_, h⟩
      rcases List.mem_cons.1 hq with rfl | hq
      · exact hb
      · exact bB_trans hb (h1 q hq)
    · rw [if_neg hb]
      refine List.pairwise_cons.2 ⟨fun q hq => ?_, SrtG.ins h2 fun q hq => hp q (by simp [hq])⟩
      rcases mem_insG.1 hq with rfl | hq
      · rcases bB_total (hp y (by simp)).symm with e | e
        · exact absurd e hb
        · exact e
      · exact h1 q hq
theorem SrtG.del {n : List UInt8} {l : List (List UInt8 × α)} (h : SrtG l) : SrtG (delG n l) := List.Pairwise.filter _ h
theorem SrtG.put {p : List UInt8 × α} {l : List (List UInt8 × α)} (h : SrtG l) : SrtG (putG p l) := h.del.ins fun _q hq => (mem_delG.1 hq).2
theorem SrtG.nil : SrtG ([] : List (List UInt8 × α)) := List.Pairwise.nil
theorem SrtG.one {l : List (List UInt8 × α)} (h : SrtG l) {p q : List UInt8 × α} (hp : p ∈ l) (hq : q ∈ l) (e : p.1 = q.1) : p = q := by
  induction l with
  | nil => cases hp
  | cons y r ih =>
    obtain ⟨h1, h2⟩ := List.pairwise_cons.1 h
    rcases List.mem_cons.1 hp with rfl | hp' <;> rcases List.mem_cons.1 hq with rfl | hq'
    · rfl
    · exact absurd e (bB_ne (h1 q hq'))
    · exact absurd e.symm (bB_ne (h1 p hp'))
    · exact ih h2 hp' hq'
theorem getG_mem {l : List (List UInt8 × α)} (h : SrtG l) {n : List UInt8} {a : α} (hp : (n, a) ∈ l) : getG n l = some a := by
  unfold getG
  cases hf : l.find? fun p => p.1 == n with
  | none => exact absurd (List.find?_eq_none.1 hf _ hp) (by simp)
  | some q =>
    have h1 := List.mem_of_find?_eq_some hf
    have h2 : q.1 = n := by simpa using List.find?_some hf
    rw [h.one h1 hp h2]; rfl
theorem getG_some {l : List (List UInt8 × α)} {n : List UInt8} {a : α} (h : getG n l = some a) : (n, a) ∈ l := by
  unfold getG at h
  obtain ⟨q, hq, rfl⟩ := Option.map_eq_some_iff.1 h
  have h1 := List.mem_of_find?_eq_some hq
  have h2 : q.1 = n := by simpa using List.find?_some hq
  rw [← h2]; exact h1
theorem getG_none {l : List (List UInt8 × α)} {n : List UInt8} : getG n l = none ↔ ∀ p ∈ l, p.1 ≠ n := by
  unfold getG
  rw [Option.map_eq_none_iff, List.find?_eq_none]
  simp
theorem getG_put_same {l : List (List UInt8 × α)} (h : SrtG l) (p : List UInt8 × α) : getG p.1 (putG p l) = some p.2 := getG_mem h.put (mem_putG.2 (.inl rfl))
theorem getG_put_other {l : List (List UInt8 × α)} (h : SrtG l) {p : List UInt8 × α} {n : List UInt8} (hn : n ≠ p.1) : getG n (putG p l) = getG n l := by
  cases hg : getG n l with
  | none =>
    rw [getG_none] at hg ⊢
    intro q hq
    rcases mem_putG.1 hq with rfl | hq
    · exact hn.symm
    · exact hg q hq.1
  | some a => exact getG_mem h.put (mem_putG.2 (.inr ⟨getG_some hg, hn⟩))
/-- Two lists by rising keys that tell the same are the same. -/
theorem SrtG.ext : ∀ {l m : List (List UInt8 × α)}, SrtG l → SrtG m → (∀ p, p ∈ l ↔ p ∈ m) → l = m
  | [], [], _, _, _ => rfl
  | [], y :: r, _, _, h => absurd ((h y).2 (by simp)) (by simp)
  | x :: r, [], _, _, h => absurd ((h x).1 (by simp)) (by simp)
  | x :: l, y :: m, h1, h2, h => by
    obtain ⟨a1, a2⟩ := List.pairwise_cons.1 h1
    obtain ⟨b1, b2⟩ := List.pairwise_cons.1 h2
    have hxy : x = y := by
      rcases List.mem_cons.1 ((h x).1 (by simp)) with e | e
      · exact e
      · rcases List.mem_cons.1 ((h y).2 (by simp)) with e' | e'
        · exact e'.symm
        · have h3 := a1 y e'
          have h4 := b1 x e
          rw [bB_asymm h3] at h4; cases h4
    subst hxy
    congr 1
    refine SrtG.ext a2 b2 fun p => ?_
    have hp := h p
    simp only [List.mem_cons] at hp
    constructor
    · intro h3
      rcases hp.1 (.inr h3) with rfl | e
      · exact absurd rfl (bB_ne (a1 p h3))
      · exact e
    · intro h3
      rcases hp.2 (.inr h3) with rfl | e
      · exact absurd rfl (bB_ne (b1 p h3))
      · exact e
/-! ### keys -/
/-- A key more, in its place, once. -/
def insK (k : List UInt8) : List (List UInt8) → List (List UInt8)
  | [] => [k]
  | y :: r => if k == y then y :: r else if bB k y then k :: y :: r else y :: insK k r
def SrtK (l : List (List UInt8)) : Prop := l.Pairwise fun a b => bB a b = true
theorem mem_insK {k q : List UInt8} : ∀ {l : List (List UInt8)}, q ∈ insK k l ↔ q = k ∨ q ∈ l
  | [] => by simp [insK]
  | y :: r => by
    unfold insK
    by_cases h : (k == y) = true
    · rw [if_pos h]
      have : k = y := by simpa using h
      subst this
      simp
    · rw [if_neg h]
      split
      · simp
      · simp only [List.mem_cons, mem_insK (l := r)]
        constructor
        · rintro (h | h | h) <;> simp [h]
        · rintro (h | h | h) <;> simp [h]
theorem SrtK.ins {k : List UInt8} : ∀ {l : List (List UInt8)}, SrtK l → SrtK (insK k l)
  | [], _ => by simp [insK, SrtK]
  | y :: r, h => by
    obtain ⟨h1, h2⟩ := List.pairwise_cons.1 h
    unfold insK
    by_cases he : (k == y) = true
    · rw [if_pos he]; exact h
    · rw [if_neg he]
      have hne : k ≠ y := by simpa using he
      by_cases hb : bB k y = true
      · rw [if_pos hb]
        refine List.pairwise_cons.2 ⟨fun q hq => ?_, h⟩
        rcases List.mem_cons.1 hq with rfl | hq
        · exact hb
        · exact bB_trans hb (h1 q hq)
      · rw [if_neg hb]
        refine List.pairwise_cons.2 ⟨fun q hq => ?_, SrtK.ins h2⟩
        rcases mem_insK.1 hq with rfl | hq
        · exact (bB_total hne).resolve_left hb
        · exact h1 q hq
theorem SrtK.ext : ∀ {l m : List (List UInt8)}, SrtK l → SrtK m → (∀ p, p ∈ l ↔ p ∈ m) → l = m
  | [], [], _, _, _ => rfl
  | [], y :: r, _, _, h => absurd ((h y).2 (by simp)) (by simp)
  | x :: r, [], _, _, h => absurd ((h x).1 (by simp)) (by simp)
  | x :: l, y :: m, h1, h2, h => by
    obtain ⟨a1, a2⟩ := List.pairwise_cons.1 h1
    obtain ⟨b1, b2⟩ := List.pairwise_cons.1 h2
    have hxy : x = y := by
      rcases List.mem_cons.1 ((h x).1 (by simp)) with e | e
      · exact e
      · rcases List.mem_cons.1 ((h y).2 (by simp)) with e' | e'
        · exact e'.symm
        · have h3 := a1 y e'
          have h4 := b1 x e
          rw [bB_asymm h3] at h4; cases h4
    subst hxy
    congr 1
    refine SrtK.ext a2 b2 fun p => ?_
    have hp := h p
    simp only [List.mem_cons] at hp
    constructor
    · intro h3
      rcases hp.1 (.inr h3) with rfl | e
      · exact absurd rfl (bB_ne (a1 p h3))
      · exact e
    · intro h3
      rcases hp.2 (.inr h3) with rfl | e
      · exact absurd rfl (bB_ne (b1 p h3))
      · exact e
theorem SrtG.keys {l : List (List UInt8 × α)} (h : SrtG l) : SrtK (l.map fun p => p.1) := by
  unfold SrtK
  rw [List.pairwise_map]
  exact h
theorem putG_keys {l : List (List UInt8 × α)} (h : SrtG l) (p : List UInt8 × α) : (putG p l).map (fun q => q.1) = insK p.1 (l.map fun q => q.1) := by
  refine SrtK.ext h.put.keys h.keys.ins fun k => ?_
  rw [mem_insK]
  constructor
  · intro hk
    obtain ⟨q, hq, rfl⟩ := List.mem_map.1 hk
    rcases mem_putG.1 hq with rfl | hq
    · exact .inl rfl
    · exact .inr (List.mem_map_of_mem hq.1)
  · rintro (rfl | hk)
    · exact List.mem_map.2 ⟨p, mem_putG.2 (.inl rfl), rfl⟩
    · obtain ⟨q, hq, rfl⟩ := List.mem_map.1 hk
      by_cases e : q.1 = p.1
      · exact List.mem_map.2 ⟨p, mem_putG.2 (.inl rfl), e.symm⟩
      · exact List.mem_map.2 ⟨q, mem_putG.2 (.inr ⟨hq, e⟩), rfl⟩
/-! ### the map's datum -/
def entG (lit : α → DataW Unit) (p : List UInt8 × α) : Lit × DataW Unit := (.string p.1, lit p.2)
def mapG (lit : α → DataW Unit) (L : List (List UInt8 × α)) : DataW Unit := .map (L.map (entG lit))
variable (lit : α → DataW Unit) (no : DataW Unit)
theorem mapG_find (L : List (List UInt8 × α)) (n : List UInt8) : (L.map (entG lit)).find? (fun p => p.1.sameKey (.string n)) = (L.find? fun p => p.1 == n).map (entG lit) := by
  rw [List.find?_map]; rfl
theorem mapG_at (L : List (List UInt8 × α)) (n : List UInt8) : (mapG lit L).atKey (.string n) no = match getG n L with | some a => lit a | none => no := by
  unfold mapG DataW.atKey getG
  simp only [mapG_find]
  cases L.find? fun p => p.1 == n <;> rfl
theorem mapG_has (L : List (List UInt8 × α)) (n : List UInt8) : Maps.has (mapG lit L) (.string n) = (getG n L).isSome := by
  unfold mapG getG
  rw [Maps.has_eq, List.any_map, Option.isSome_map, List.isSome_find?]
  rfl
theorem mapG_size (L : List (List UInt8 × α)) : Maps.size (mapG lit L) = L.length := by simp [mapG, Maps.size]
theorem mapG_keys (L : List (List UInt8 × α)) : strKeys (mapG lit L) = L.map fun p => p.1 := by
  show ((L.map (entG lit)).map fun p => strOf p.1) = _
  rw [List.map_map]; rfl
theorem mapG_ins (p : List UInt8 × α) : ∀ L : List (List UInt8 × α), DataW.insert (entG lit p) (L.map (entG lit)) = (insG p L).map (entG lit)
  | [] => rfl
  | y :: r => by
    rw [List.map_cons]
    unfold DataW.insert insG
    show (if bB p.1 y.1 then _ else _) = _
    split
    · rfl
    · rw [mapG_ins p r]; rfl
theorem mapG_filter (n : List UInt8) (L : List (List UInt8 × α)) : (L.map (entG lit)).filter (fun p => !p.1.sameKey (.string n)) = (delG n L).map (entG lit) := by
  unfold delG
  rw [List.filter_map]; rfl
theorem mapG_put (L : List (List UInt8 × α)) (p : List UInt8 × α) : (mapG lit L).put (.string p.1) (lit p.2) = mapG lit (putG p L) := by
  show DataW.map (DataW.insert (entG lit p) ((L.map (entG lit)).filter fun q => !q.1.sameKey (.string p.1))) = _
  rw [mapG_filter, mapG_ins]; rfl
theorem putG_length (p : List UInt8 × α) (l : List (List UInt8 × α)) : (putG p l).length ≤ l.length + 1 := by
  have h1 : ∀ m : List (List UInt8 × α), (insG p m).length = m.length + 1 := by
    intro m
    induction m with
    | nil => rfl
    | cons y r ih => unfold insG; split <;> simp [ih]
  unfold putG delG
  rw [h1]
  have := List.length_filter_le (fun q : List UInt8 × α => !(q.1 == p.1)) l
  omega
end
theorem ownsMap_tight {P : Program} {k : TypeId} {R : Value → Option (DataW Unit × List MemPlace)} {w : World} {b n : Nat} {D : DataW Unit} (h : w.ownsMap P k R b n D) : w.ownsMap P k R b (Maps.size D) D := by
  obtain ⟨es, clock, hb, F, hs, rfl⟩ := h
  exact ⟨es, clock, hb, F, by simp [Maps.size, length_sorted], rfl⟩
theorem ownsMap_block {P : Program} {k : TypeId} {R : Value → Option (DataW Unit × List MemPlace)} {w w' : World} {b n : Nat} {D : DataW Unit} (h : w.ownsMap P k R b n D) (hb : w'.heap[b]? = w.heap[b]?) : w'.ownsMap P k R b n D := by
  obtain ⟨es, clock, h1, r⟩ := h
  exact ⟨es, clock, hb.trans h1, r⟩
theorem strKeyed : Keyed Tryz.prog 9 := string_keyed Tryz.underlying9
theorem keyS (n : List UInt8) (hn : n.length ≤ maxLen) : keyOf Tryz.prog 9 (.string (bs n)) = some (.string n) := by
  have := Go.WideMaps.keyOf_string_mk Tryz.underlying9 (s := bs n) (by rw [bs_size]; exact hn)
  simpa [bs] using this
/-- Keys handed out in any order, sorted. -/
theorem SrtK.sorted {l ss : List (List UInt8)} (h : SrtK l) (hp : ss.Perm l) : ss.mergeSort (fun x y => decide (x ≤ y)) = l := by
  rw [mergeSort_of_perm hp]
  refine List.mergeSort_of_pairwise (h.imp fun {a b} hab => ?_)
  rw [bB_lt, decide_eq_true_eq] at hab
  simpa using List.le_of_lt hab
end Go.Proofs.YtalpbphfmelhhaaGreatDoor
