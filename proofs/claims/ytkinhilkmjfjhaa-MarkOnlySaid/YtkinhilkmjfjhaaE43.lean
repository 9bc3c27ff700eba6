/-
  Files that are handed in (their safe bytes any integer): when they are a disk, and which; how they lie.
-/
import Derived.Test.YtkinhilkmjfjhaaEZ
import Derived.Test.YtkinhilkmjfjhaaE25
namespace Go.Proofs.Ytkinhilkmjfjhaa
open Go.RowKit Go.Maps Go.Sort
set_option maxRecDepth 100000

/-- A file that is handed in. -/
structure FlI where
  nm : List UInt8
  dt : List UInt8
  sf : Int
def FlI.fl (f : FlI) : Fl := ⟨f.nm, f.dt, f.sf.toNat⟩
def FlI.z (f : FlI) : Fl := ⟨f.nm, [], 0⟩
def chkE (seen : List (List UInt8)) (f : FlI) : Int := if nameOk f.nm = false then 10 else if f.nm ∈ seen then 9 else if f.sf < 0 ∨ (f.dt.length : Int) < f.sf then 1 else 0
def chk : List (List UInt8) → List FlI → Int
  | _, [] => 0
  | seen, f :: r => if chkE seen f = 0 then chk (seen ++ [f.nm]) r else chkE seen f
def loadE (l : List FlI) : Int := if chk [] l = 0 then (if 64 < l.length then 3 else 0) else chk [] l
def loadL (l : List FlI) : List Fl := l.foldl (fun acc f => insF f.fl acc) []
def loadS (l : List FlI) : DS := ⟨loadL l, 0, 0, false⟩
def totI (l : List FlI) : Nat := (l.map fun f => f.dt.length).sum
theorem totI_next {l : List FlI} {k : Nat} {f : FlI} (h : l[k]? = some f) : totI (l.take (k + 1)) = totI (l.take k) + f.dt.length := by
  rw [List.take_add_one, h]; simp [totI]
theorem totI_take_le (l : List FlI) (k : Nat) : totI (l.take k) ≤ totI l := by
  have := congrArg totI (List.take_append_drop k l)
  simp only [totI, List.map_append, List.sum_append] at this ⊢; omega
/-- Where a look at the files stands. -/
structure ChkAt (l : List FlI) (k : Nat) : Prop where
  now : chk [] l = chk ((l.take k).map FlI.nm) (l.drop k)
  each : ∀ f ∈ l.take k, nameOk f.nm = true ∧ 0 ≤ f.sf ∧ f.sf ≤ f.dt.length
  nod : (l.take k).Pairwise fun a b => a.nm ≠ b.nm
theorem ChkAt.start (l : List FlI) : ChkAt l 0 := ⟨rfl, fun f h => by simp at h, by simp⟩
theorem ChkAt.stop {l : List FlI} {k : Nat} {f : FlI} (h : ChkAt l k) (hf : l[k]? = some f) {e : Int} (he : chkE ((l.take k).map FlI.nm) f = e) (h0 : e ≠ 0) : loadE l = e := by
  obtain ⟨hlt, e1⟩ := List.getElem?_eq_some_iff.1 hf
  have h1 : chk [] l = e := by rw [h.now, List.drop_eq_getElem_cons hlt, e1, chk, he, if_neg h0]
  unfold loadE; rw [h1, if_neg h0]
theorem chkE_zero {seen : List (List UInt8)} {f : FlI} (h1 : nameOk f.nm = true) (h2 : f.nm ∉ seen) (h3 : 0 ≤ f.sf) (h4 : f.sf ≤ f.dt.length) : chkE seen f = 0 := by
  unfold chkE; rw [if_neg (by rw [h1]; decide), if_neg h2, if_neg (by omega)]
theorem ChkAt.next {l : List FlI} {k : Nat} {f : FlI} (h : ChkAt l k) (hf : l[k]? = some f) (h1 : nameOk f.nm = true) (h2 : f.nm ∉ (l.take k).map FlI.nm) (h3 : 0 ≤ f.sf) (h4 : f.sf ≤ f.dt.length) : ChkAt l (k + 1) := by
  obtain ⟨hlt, e1⟩ := List.getElem?_eq_some_iff.1 hf
  have ht : l.take (k + 1) = l.take k ++ [f] := take_snocE hf
  refine ⟨?_, fun g hg => ?_, ?_⟩
  · rw [h.now, List.drop_eq_getElem_cons hlt, e1, chk, if_pos (chkE_zero h1 h2 h3 h4), ht, List.map_append]; rfl
  · rw [ht] at hg
    rcases List.mem_append.1 hg with hg | hg
    · exact h.each g hg
    · simp at hg; subst hg; exact ⟨h1, h3, h4⟩
  · rw [ht]
    refine List.pairwise_append.2 ⟨h.nod, by simp, fun a ha b hb => ?_⟩
    simp at hb; subst hb
    intro e
    exact h2 (by rw [← e]; exact List.mem_map_of_mem ha)
theorem ChkAt.many {l : List FlI} (h : ChkAt l l.length) (hm : 64 < l.length) : loadE l = 3 := by
  have h1 : chk [] l = 0 := by rw [h.now, List.drop_length]; rfl
  unfold loadE; rw [h1, if_pos rfl, if_pos hm]
theorem ChkAt.fine {l : List FlI} (h : ChkAt l l.length) (hm : l.length ≤ 64) : loadE l = 0 := by
  have h1 : chk [] l = 0 := by rw [h.now, List.drop_length]; rfl
  unfold loadE; rw [h1, if_pos rfl, if_neg (by omega)]
/-- Sorted lists of the same members are the same. -/
theorem srt_ext : ∀ {l l' : List Fl}, Srt l → Srt l' → (∀ x, x ∈ l ↔ x ∈ l') → l = l'
  | [], [], _, _, _ => rfl
  | [], y :: r, _, _, h => by have := (h y).2 (by simp); simp at this
  | y :: r, [], _, _, h => by have := (h y).1 (by simp); simp at this
  | a :: r, b :: s, h1, h2, h => by
    obtain ⟨a1, a2⟩ := List.pairwise_cons.1 h1
    obtain ⟨b1, b2⟩ := List.pairwise_cons.1 h2
    have hab : a = b := by
      rcases List.mem_cons.1 ((h a).1 (by simp)) with e | e
      · exact e
      · rcases List.mem_cons.1 ((h b).2 (by simp)) with e2 | e2
        · exact e2.symm
        · have p1 := b1 a e
          have p2 := a1 b e2
          rw [bB_asymm p1] at p2; cases p2
    subst hab
    have hr : ∀ x, x ∈ r ↔ x ∈ s := fun x => by
      constructor
      · intro hx
        rcases List.mem_cons.1 ((h x).1 (by simp [hx])) with e | e
        · subst e; have := a1 x hx; rw [bB_irrefl] at this; cases this
        · exact e
      · intro hx
        rcases List.mem_cons.1 ((h x).2 (by simp [hx])) with e | e
        · subst e; have := b1 x hx; rw [bB_irrefl] at this; cases this
        · exact e
    rw [srt_ext a2 b2 hr]
theorem mem_fold (l : List FlI) : ∀ (acc : List Fl) (x : Fl), x ∈ l.foldl (fun acc f => insF f.fl acc) acc ↔ (x ∈ acc ∨ ∃ f ∈ l, x = f.fl) := by
  induction l with
  | nil => simp
  | cons f r ih =>
    intro acc x
    rw [List.foldl_cons, ih, mem_insF]
    constructor
    · rintro ((h | h) | ⟨g, hg, h⟩)
      · exact .inr ⟨f, by simp, h⟩
      · exact .inl h
      · exact .inr ⟨g, by simp [hg], h⟩
    · rintro (h | ⟨g, hg, h⟩)
      · exact .inl (.inr h)
      · rcases List.mem_cons.1 hg with e | e
        · subst e; exact .inl (.inl h)
        · exact .inr ⟨g, e, h⟩
theorem mem_loadL {l : List FlI} {x : Fl} : x ∈ loadL l ↔ ∃ f ∈ l, x = f.fl := by unfold loadL; rw [mem_fold]; simp
theorem loadL_snoc (l : List FlI) (f : FlI) : loadL (l ++ [f]) = insF f.fl (loadL l) := by unfold loadL; rw [List.foldl_append]; rfl
theorem loadL_next {l : List FlI} {k : Nat} {f : FlI} (h : l[k]? = some f) : loadL (l.take (k + 1)) = insF f.fl (loadL (l.take k)) := by rw [take_snocE h, loadL_snoc]
theorem ChkAt.srt {l : List FlI} {k : Nat} (h : ChkAt l k) : ∀ j, j ≤ k → Srt (loadL (l.take j))
  | 0, _ => by simp [loadL, Srt]
  | j + 1, hj => by
    have ih := h.srt j (by omega)
    rcases Nat.lt_or_ge j l.length with hl | hl
    · obtain ⟨f, hf⟩ : ∃ f, l[j]? = some f := ⟨_, List.getElem?_eq_getElem hl⟩
      rw [loadL_next hf]
      refine srt_ins ih fun g hg => ?_
      obtain ⟨x, hx, rfl⟩ := mem_loadL.1 hg
      have hn : (l.take (j + 1)).Pairwise fun a b => a.nm ≠ b.nm := by
        have := h.nod.sublist (List.take_sublist (j + 1) (l.take k))
        rwa [List.take_take, Nat.min_eq_left hj] at this
      rw [take_snocE hf] at hn
      exact (List.pairwise_append.1 hn).2.2 x hx f (by simp)
    · rw [List.take_of_length_le (by omega)]
      rw [List.take_of_length_le hl] at ih; exact ih
theorem len_loadL (l : List FlI) : (loadL l).length = l.length := by
  suffices h : ∀ (acc : List Fl), (l.foldl (fun acc f => insF f.fl acc) acc).length = acc.length + l.length by unfold loadL; rw [h]; simp
  induction l with
  | nil => simp
  | cons f r ih => intro acc; rw [List.foldl_cons, ih, len_ins]; simp; omega
theorem tot_loadL (l : List FlI) : tot (loadL l) = totI l := by
  suffices h : ∀ (acc : List Fl), tot (l.foldl (fun acc f => insF f.fl acc) acc) = tot acc + totI l by unfold loadL; rw [h]; simp [tot]
  induction l with
  | nil => simp [totI]
  | cons f r ih => intro acc; rw [List.foldl_cons, ih, tot_ins]; simp [totI, FlI.fl]; omega
theorem ChkAt.ok {l : List FlI} (h : ChkAt l l.length) (hm : l.length ≤ 64) (ht : totI l ≤ 4194304) {B : Int} (hB : 0 ≤ B) : DOk B (loadS l) := by
  have hs := h.srt l.length (Nat.le_refl _)
  rw [List.take_length] at hs
  refine ⟨hs, fun f hf => ?_, by show tot (loadL l) ≤ _; rw [tot_loadL]; exact ht, by show (loadL l).length ≤ _; rw [len_loadL]; exact hm, by simp [loadS], by simp [loadS], by simp [loadS], hB⟩
  obtain ⟨g, hg, rfl⟩ := mem_loadL.1 hf
  obtain ⟨e1, e2, e3⟩ := h.each g (by rw [List.take_length]; exact hg)
  have := (nameOk_iff g.nm).1 e1
  exact ⟨this.1, this.2, by show g.sf.toNat ≤ g.dt.length; omega⟩
/-- The program's files while it reads their bytes: those of the first k are whole, the others empty. -/
structure LdAt (l : List FlI) (k : Nat) (fs : List Fl) : Prop where
  srt : Srt fs
  mem : ∀ x, x ∈ fs ↔ (∃ f ∈ l.take k, x = f.fl) ∨ (∃ f ∈ l.drop k, x = f.z)
theorem LdAt.done {l : List FlI} {fs : List Fl} (h : LdAt l l.length fs) (hc : ChkAt l l.length) : fs = loadL l := by
  have hs := hc.srt l.length (Nat.le_refl _)
  rw [List.take_length] at hs
  refine srt_ext h.srt hs fun x => ?_
  rw [h.mem, mem_loadL, List.take_length, List.drop_length]
  simp
theorem LdAt.next {l : List FlI} {k : Nat} {fs : List Fl} {f : FlI} (h : LdAt l k fs) (hc : ChkAt l l.length) (hf : l[k]? = some f) : LdAt l (k + 1) (insF f.fl (delF f.nm fs)) := by
  obtain ⟨hlt, e1⟩ := List.getElem?_eq_some_iff.1 hf
  have hn := hc.nod
  rw [List.take_length] at hn
  have hl : l = l.take k ++ f :: l.drop (k + 1) := by rw [← e1, ← List.drop_eq_getElem_cons hlt, List.take_append_drop]
  rw [hl] at hn
  obtain ⟨_, p2, p3⟩ := List.pairwise_append.1 hn
  obtain ⟨p4, _⟩ := List.pairwise_cons.1 p2
  refine ⟨srt_ins (srt_del h.srt _) fun g hg => (mem_del.1 hg).2, fun x => ?_⟩
  rw [mem_insF, mem_del, h.mem, take_snocE hf, List.drop_eq_getElem_cons hlt, e1]
  constructor
  · rintro (rfl | ⟨⟨g, hg, rfl⟩ | ⟨g, hg, rfl⟩, hx⟩)
    · exact .inl ⟨f, by simp, rfl⟩
    · exact .inl ⟨g, by simp [hg], rfl⟩
    · rcases List.mem_cons.1 hg with e | e
      · subst e; exact absurd rfl hx
      · exact .inr ⟨g, e, rfl⟩
  · rintro (⟨g, hg, rfl⟩ | ⟨g, hg, rfl⟩)
    · rcases List.mem_append.1 hg with e | e
      · exact .inr ⟨.inl ⟨g, e, rfl⟩, p3 g e f (by simp)⟩
      · simp at e; subst e; exact .inl rfl
    · exact .inr ⟨.inr ⟨g, by simp [hg], rfl⟩, fun e => p4 g hg e.symm⟩
/-- The program's files while it looks at their names: all empty. -/
structure LzAt (l : List FlI) (k : Nat) (fs : List Fl) : Prop where
  srt : Srt fs
  mem : ∀ x, x ∈ fs ↔ ∃ f ∈ l.take k, x = f.z
theorem LzAt.start (l : List FlI) : LzAt l 0 [] := ⟨by simp [Srt], fun x => by simp⟩
theorem LzAt.seen {l : List FlI} {k : Nat} {fs : List Fl} (h : LzAt l k fs) (n : List UInt8) : (getF n fs).isSome = true ↔ n ∈ (l.take k).map FlI.nm := by
  constructor
  · intro hs
    cases hg : getF n fs with
    | none => rw [hg] at hs; cases hs
    | some x =>
      obtain ⟨hx, hn⟩ := getF_some hg
      obtain ⟨f, hf, rfl⟩ := (h.mem x).1 hx
      rw [← hn]; exact List.mem_map_of_mem hf
  · intro hn
    obtain ⟨f, hf, e⟩ := List.mem_map.1 hn
    cases hg : getF n fs with
    | none => exact absurd e (getF_none hg f.z ((h.mem _).2 ⟨f, hf, rfl⟩))
    | some _ => rfl
theorem LzAt.next {l : List FlI} {k : Nat} {fs : List Fl} {f : FlI} (h : LzAt l k fs) (hf : l[k]? = some f) (hn : getF f.nm fs = none) : LzAt l (k + 1) (insF f.z fs) := by
  refine ⟨srt_ins h.srt fun g hg => getF_none hn g hg, fun x => ?_⟩
  rw [mem_insF, h.mem, take_snocE hf]
  constructor
  · rintro (rfl | ⟨g, hg, rfl⟩)
    · exact ⟨f, by simp, rfl⟩
    · exact ⟨g, by simp [hg], rfl⟩
  · rintro ⟨g, hg, rfl⟩
    rcases List.mem_append.1 hg with e | e
    · exact .inr ⟨g, e, rfl⟩
    · simp at e; subst e; exact .inl rfl
theorem LzAt.ld {l : List FlI} {fs : List Fl} (h : LzAt l l.length fs) : LdAt l 0 fs := ⟨h.srt, fun x => by rw [h.mem, List.take_length]; simp⟩

/-! ### how they lie -/
def FiWf (f : FlI) : Prop := f.nm.length ≤ 9223372036854775807 ∧ -9223372036854775808 ≤ f.sf ∧ f.sf ≤ 9223372036854775807
def fiCells (f : FlI) (a : Option Addr) (c : Nat) : List Value := [.string (bs f.nm), .slice a f.dt.length c, .int .i64 f.sf]
def FiRd (w : World) (T : Nat → Prop) (f : FlI) (a : Option Addr) (c : Nat) : Prop := FiWf f ∧ Rd8 w a f.dt.length c f.dt ∧ BlkIn a f.dt.length T
def RdFi (w : World) (T : Nat → Prop) (a : Option Addr) (n cap : Nat) (l : List FlI) : Prop :=
  n = l.length ∧ BlkIn a n T ∧ ∃ xs, Rd w a n cap 3 xs ∧ ∀ (i : Nat) (f : FlI), l[i]? = some f → ∃ ai ci, (∀ (j : Nat) (u : Value), (fiCells f ai ci)[j]? = some u → xs[i * 3 + j]? = some u) ∧ FiRd w T f ai ci
theorem RdFi.keep {S T : Nat → Prop} {w w' : World} {a : Option Addr} {n cap : Nat} {l : List FlI} (h : RdFi w T a n cap l) (hf : Fr S w w') (hn : ∀ b, T b → ¬ S b) : RdFi w' T a n cap l := by
  obtain ⟨h1, h2, xs, h3, h4⟩ := h
  refine ⟨h1, h2, xs, h3.keep0 hf fun h0 b hb => hn b (h2 h0 b hb), fun i f hi => ?_⟩
  obtain ⟨ai, ci, hc, hw, hr, hb⟩ := h4 i f hi
  exact ⟨ai, ci, hc, hw, hr.keep0 hf fun h0 b hb' => hn b (hb h0 b hb'), hb⟩
theorem RdFi.below {T : Nat → Prop} {w w' : World} {a : Option Addr} {n cap : Nat} {l : List FlI} (h : RdFi w T a n cap l) (hb : Below w.heap.size w w') : RdFi w' T a n cap l := by
  obtain ⟨h1, h2, xs, h3, h4⟩ := h
  refine ⟨h1, h2, xs, h3.below hb, fun i f hi => ?_⟩
  obtain ⟨ai, ci, hc, hw, hr, hb'⟩ := h4 i f hi
  exact ⟨ai, ci, hc, hw, hr.below hb, hb'⟩
theorem RdFi.mono {w : World} {T T' : Nat → Prop} {a : Option Addr} {n cap : Nat} {l : List FlI} (h : RdFi w T a n cap l) (ht : ∀ b, T b → T' b) : RdFi w T' a n cap l := by
  obtain ⟨h1, h2, xs, h3, h4⟩ := h
  refine ⟨h1, fun h0 b hb => ht _ (h2 h0 b hb), xs, h3, fun i f hi => ?_⟩
  obtain ⟨ai, ci, hc, hw, hr, hb'⟩ := h4 i f hi
  exact ⟨ai, ci, hc, hw, hr, fun h0 b hb => ht _ (hb' h0 b hb)⟩
theorem RdFi.at {w : World} {T : Nat → Prop} {a : Option Addr} {n cap : Nat} {l : List FlI} (h : RdFi w T a n cap l) {k : Nat} {f : FlI} (hf : l[k]? = some f) :
    ∃ b off ai ci, a = some ⟨b, off, none⟩ ∧ FiRd w T f ai ci ∧ w.cell? ⟨b, off + k * 3, none⟩ = some (.string (bs f.nm)) ∧ w.cell? ⟨b, off + k * 3 + 1, none⟩ = some (.slice ai f.dt.length ci) ∧ w.cell? ⟨b, off + k * 3 + 2, none⟩ = some (.int .i64 f.sf) := by
  obtain ⟨rfl, h2, xs, h3, h4⟩ := h
  have hk : k < l.length := (List.getElem?_eq_some_iff.1 hf).1
  obtain ⟨ai, ci, hc, hr⟩ := h4 k f hf
  obtain ⟨b, off, rfl, _, hcell⟩ := h3.at (by omega)
  refine ⟨b, off, ai, ci, rfl, hr, hcell _ _ (hc 0 _ rfl), ?_, ?_⟩
  · rw [Nat.add_assoc]; exact hcell _ _ (hc 1 _ rfl)
  · rw [Nat.add_assoc]; exact hcell _ _ (hc 2 _ rfl)
theorem fiAt (w : World) (f : FlI) (a : Option Addr) (c : Nat) : ∃ W, W = w.alloc (.cells #[.string (bs f.nm), .slice a f.dt.length c, .int .i64 f.sf] 57) ∧ Below w.heap.size w W ∧ W.heap.size = w.heap.size + 1 ∧ W.cell? ⟨w.heap.size, 0, none⟩ = some (.string (bs f.nm)) ∧ W.cell? ⟨w.heap.size, 1, none⟩ = some (.slice a f.dt.length c) ∧
    W.cell? ⟨w.heap.size, 2, none⟩ = some (.int .i64 f.sf) := by
  have hg := heap_alloc_new w (.cells #[.string (bs f.nm), .slice a f.dt.length c, .int .i64 f.sf] 57)
  exact ⟨_, rfl, (Below.refl _ _).alloc (Nat.le_refl _) _, by simp, cell_of_row _ _ 0 _ _ _ hg, cell_of_row _ _ 1 _ _ _ hg, cell_of_row _ _ 2 _ _ _ hg⟩
end Go.Proofs.Ytkinhilkmjfjhaa
