/-
 Files that are handed in (their safe bytes any integer): when they are a disk, and which; how they lie.
 The disk's Load.
 The reference's Load.
 Files that are handed in: opened, compared, written over.
-/
import Derived.Test.YtjjcilinghgphaaGreatEU
import Derived.Test.YtjjcilinghgphaaGreatE20
/-! ### Files that are handed in (their safe bytes any integer): when they are a disk, and which; how they lie. -/
namespace Go.Proofs.YtjjcilinghgphaaGreat
open Go.RowKit Go.Maps Go.Sort
set_option maxRecDepth 100000

/-- A file that is handed in. -/
structure FlI where
 nm : List UInt8
 dt : List UInt8
 sf : Int
def FlI.fl (f : FlI) : Fl := ⟨f.nm, f.dt, f.sf.toNat⟩
def FlI.z (f : FlI) : Fl := ⟨f.nm, [], 0⟩
def chkE (seen : List (List UInt8)) (f : FlI) : Int := if nameOk f.nm = false then 10 else if f.nm ∈ seen then 9 else if f.sf < 0 ∨ (f.dt.length : Int) < f.sf then 1 else 0
def chk : List (List UInt8) → List FlI → Int
 | _, [] => 0
 | seen, f :: r => if chkE seen f = 0 then chk (seen ++ [f.nm]) r else chkE seen f
def loadE (l : List FlI) : Int := if chk [] l = 0 then (if 64 < l.length then 3 else 0) else chk [] l
def loadL (l : List FlI) : List Fl := l.foldl (fun acc f => insF f.fl acc) []
def loadS (l : List FlI) : DS := ⟨loadL l, 0, 0, false⟩
def totI (l : List FlI) : Nat := (l.map fun f => f.dt.length).sum
theorem totI_next {l : List FlI} {k : Nat} {f : FlI} (h : l[k]? = some f) : totI (l.take (k + 1)) = totI (l.take k) + f.dt.length := by
 rw [List.take_add_one, h]; simp [totI]
theorem totI_take_le (l : List FlI) (k : Nat) : totI (l.take k) ≤ totI l := by
 have := congrArg totI (List.take_append_drop k l)
 simp only [totI, List.map_append, List.sum_append] at this ⊢; omega
/-- Where a look at the files stands. -/
structure ChkAt (l : List FlI) (k : Nat) : Prop where
 now : chk [] l = chk ((l.take k).map FlI.nm) (l.drop k)
 each : ∀ f ∈ l.take k, nameOk f.nm = true ∧ 0 ≤ f.sf ∧ f.sf ≤ f.dt.length
 nod : (l.take k).Pairwise fun a b => a.nm ≠ b.nm
theorem ChkAt.start (l : List FlI) : ChkAt l 0 := ⟨rfl, fun f h => by simp at h, by simp⟩
theorem ChkAt.stop {l : List FlI} {k : Nat} {f : FlI} (h : ChkAt l k) (hf : l[k]? = some f) {e : Int} (he : chkE ((l.take k).map FlI.nm) f = e) (h0 : e ≠ 0) : loadE l = e := by
 obtain ⟨hlt, e1⟩ := List.getElem?_eq_some_iff.1 hf
 have h1 : chk [] l = e := by rw [h.now, List.drop_eq_getElem_cons hlt, e1, chk, he, if_neg h0]
 unfold loadE; rw [h1, if_neg h0]
theorem chkE_zero {seen : List (List UInt8)} {f : FlI} (h1 : nameOk f.nm = true) (h2 : f.nm ∉ seen) (h3 : 0 ≤ f.sf) (h4 : f.sf ≤ f.dt.length) : chkE seen f = 0 := by
 unfold chkE; rw [if_neg (by rw [h1]; decide), if_neg h2, if_neg (by omega)]
theorem ChkAt.next {l : List FlI} {k : Nat} {f : FlI} (h : ChkAt l k) (hf : l[k]? = some f) (h1 : nameOk f.nm = true) (h2 : f.nm ∉ (l.take k).map FlI.nm) (h3 : 0 ≤ f.sf) (h4 : f.sf ≤ f.dt.length) : ChkAt l (k + 1) := by
 obtain ⟨hlt, e1⟩ := List.getElem?_eq_some_iff.1 hf
 have ht : l.take (k + 1) = l.take k ++ [f] := take_snocE hf
 refine ⟨?_, fun g hg => ?_, ?_⟩
 · rw [h.now, List.drop_eq_getElem_cons hlt, e1, chk, if_pos (chkE_zero h1 h2 h3 h4), ht, List.map_append]; rfl
 · rw [ht] at hg
   rcases List.mem_append.1 hg with hg | hg
   · exact h.each g hg
   · simp at hg; subst hg; exact ⟨h1, h3, h4⟩
 · rw [ht]
   refine List.pairwise_append.2 ⟨h.nod, by simp, fun a ha b hb => ?_⟩
   simp at hb; subst hb
   intro e
   exact h2 (by rw [← e]; exact List.mem_map_of_mem ha)
theorem ChkAt.many {l : List FlI} (h : ChkAt l l.length) (hm : 64 < l.length) : loadE l = 3 := by
 have h1 : chk [] l = 0 := by rw [h.now, List.drop_length]; rfl
 unfold loadE; rw [h1, if_pos rfl, if_pos hm]
theorem ChkAt.fine {l : List FlI} (h : ChkAt l l.length) (hm : l.length ≤ 64) : loadE l = 0 := by
 have h1 : chk [] l = 0 := by rw [h.now, List.drop_length]; rfl
 unfold loadE; rw [h1, if_pos rfl, if_neg (by omega)]
/-- Sorted lists of the same members are the same. -/
theorem srt_ext : ∀ {l l' : List Fl}, Srt l → Srt l' → (∀ x, x ∈ l ↔ x ∈ l') → l = l'
 | [], [], _, _, _ => rfl
 | [], y :: r, _, _, h => by have := (h y).2 (by simp); simp at this
 | y :: r, [], _, _, h => by have := (h y).1 (by simp); simp at this
 | a :: r, b :: s, h1, h2, h => by
  obtain ⟨a1, a2⟩ := List.pairwise_cons.1 h1
  obtain ⟨b1, b2⟩ := List.pairwise_cons.1 h2
  have hab : a = b := by
   rcases List.mem_cons.1 ((h a).1 (by simp)) with e | e
   · exact e
   · rcases List.mem_cons.1 ((h b).2 (by simp)) with e2 | e2
     · exact e2.symm
     · have p1 := b1 a e
       have p2 := a1 b e2
       rw [bB_asymm p1] at p2; cases p2
  subst hab
  have hr : ∀ x, x ∈ r ↔ x ∈ s := fun x => by
   constructor
   · intro hx
     rcases List.mem_cons.1 ((h x).1 (by simp [hx])) with e | e
     · subst e; have := a1 x hx; rw [bB_irrefl] at this; cases this
     · exact e
   · intro hx
     rcases List.mem_cons.1 ((h x).2 (by simp [hx])) with e | e
     · subst e; have := b1 x hx; rw [bB_irrefl] at this; cases this
     · exact e
  rw [srt_ext a2 b2 hr]
theorem mem_fold (l : List FlI) : ∀ (acc : List Fl) (x : Fl), x ∈ l.foldl (fun acc f => insF f.fl acc) acc ↔ (x ∈ acc ∨ ∃ f ∈ l, x = f.fl) := by
 induction l with
 | nil => simp
 | cons f r ih =>
  intro acc x
  rw [List.foldl_cons, ih, mem_insF]
  constructor
  · rintro ((h | h) | ⟨g, hg, h⟩)
    · exact .inr ⟨f, by simp, h⟩
    · exact .inl h
    · exact .inr ⟨g, by simp [hg], h⟩
  · rintro (h | ⟨g, hg, h⟩)
    · exact .inl (.inr h)
    · rcases List.mem_cons.1 hg with e | e
      · subst e; exact .inl (.inl h)
      · exact .inr ⟨g, e, h⟩
theorem mem_loadL {l : List FlI} {x : Fl} : x ∈ loadL l ↔ ∃ f ∈ l, x = f.fl := by unfold loadL; rw [mem_fold]; simp
theorem loadL_snoc (l : List FlI) (f : FlI) : loadL (l ++ [f]) = insF f.fl (loadL l) := by unfold loadL; rw [List.foldl_append]; rfl
theorem loadL_next {l : List FlI} {k : Nat} {f : FlI} (h : l[k]? = some f) : loadL (l.take (k + 1)) = insF f.fl (loadL (l.take k)) := by rw [take_snocE h, loadL_snoc]
theorem ChkAt.srt {l : List FlI} {k : Nat} (h : ChkAt l k) : ∀ j, j ≤ k → Srt (loadL (l.take j))
 | 0, _ => by simp [loadL, Srt]
 | j + 1, hj => by
  have ih := h.srt j (by omega)
  rcases Nat.lt_or_ge j l.length with hl | hl
  · obtain ⟨f, hf⟩ : ∃ f, l[j]? = some f := ⟨_, List.getElem?_eq_getElem hl⟩
    rw [loadL_next hf]
    refine srt_ins ih fun g hg => ?_
    obtain ⟨x, hx, rfl⟩ := mem_loadL.1 hg
    have hn : (l.take (j + 1)).Pairwise fun a b => a.nm ≠ b.nm := by
     have := h.nod.sublist (List.take_sublist (j + 1) (l.take k))
     rwa [List.take_take, Nat.min_eq_left hj] at this
    rw [take_snocE hf] at hn
    exact (List.pairwise_append.1 hn).2.2 x hx f (by simp)
  · rw [List.take_of_length_le (by omega)]
    rw [List.take_of_length_le hl] at ih; exact ih
theorem len_loadL (l : List FlI) : (loadL l).length = l.length := by
 suffices h : ∀ (acc : List Fl), (l.foldl (fun acc f => insF f.fl acc) acc).length = acc.length + l.length by unfold loadL; rw [h]; simp
 induction l with
 | nil => simp
 | cons f r ih => intro acc; rw [List.foldl_cons, ih, len_ins]; simp; omega
theorem tot_loadL (l : List FlI) : tot (loadL l) = totI l := by
 suffices h : ∀ (acc : List Fl), tot (l.foldl (fun acc f => insF f.fl acc) acc) = tot acc + totI l by unfold loadL; rw [h]; simp [tot]
 induction l with
 | nil => simp [totI]
 | cons f r ih => intro acc; rw [List.foldl_cons, ih, tot_ins]; simp [totI, FlI.fl]; omega
theorem ChkAt.ok {l : List FlI} (h : ChkAt l l.length) (hm : l.length ≤ 64) (ht : totI l ≤ 4194304) {B : Int} (hB : 0 ≤ B) : DOk B (loadS l) := by
 have hs := h.srt l.length (Nat.le_refl _)
 rw [List.take_length] at hs
 refine ⟨hs, fun f hf => ?_, by show tot (loadL l) ≤ _; rw [tot_loadL]; exact ht, by show (loadL l).length ≤ _; rw [len_loadL]; exact hm, by simp [loadS], by simp [loadS], by simp [loadS], hB⟩
 obtain ⟨g, hg, rfl⟩ := mem_loadL.1 hf
 obtain ⟨e1, e2, e3⟩ := h.each g (by rw [List.take_length]; exact hg)
 have := (nameOk_iff g.nm).1 e1
 exact ⟨this.1, this.2, by show g.sf.toNat ≤ g.dt.length; omega⟩
/-- The program's files while it reads their bytes: those of the first k are whole, the others empty. -/
structure LdAt (l : List FlI) (k : Nat) (fs : List Fl) : Prop where
 srt : Srt fs
 mem : ∀ x, x ∈ fs ↔ (∃ f ∈ l.take k, x = f.fl) ∨ (∃ f ∈ l.drop k, x = f.z)
theorem LdAt.done {l : List FlI} {fs : List Fl} (h : LdAt l l.length fs) (hc : ChkAt l l.length) : fs = loadL l := by
 have hs := hc.srt l.length (Nat.le_refl _)
 rw [List.take_length] at hs
 refine srt_ext h.srt hs fun x => ?_
 rw [h.mem, mem_loadL, List.take_length, List.drop_length]
 simp
theorem LdAt.next {l : List FlI} {k : Nat} {fs : List Fl} {f : FlI} (h : LdAt l k fs) (hc : ChkAt l l.length) (hf : l[k]? = some f) : LdAt l (k + 1) (insF f.fl (delF f.nm fs)) := by
 obtain ⟨hlt, e1⟩ := List.getElem?_eq_some_iff.1 hf
 have hn := hc.nod
 rw [List.take_length] at hn
 have hl : l = l.take k ++ f :: l.drop (k + 1) := by rw [← e1, ← List.drop_eq_getElem_cons hlt, List.take_append_drop]
 rw [hl] at hn
 obtain ⟨_, p2, p3⟩ := List.pairwise_append.1 hn
 obtain ⟨p4, _⟩ := List.pairwise_cons.1 p2
 refine ⟨srt_ins (srt_del h.srt _) fun g hg => (mem_del.1 hg).2, fun x => ?_⟩
 rw [mem_insF, mem_del, h.mem, take_snocE hf, List.drop_eq_getElem_cons hlt, e1]
 constructor
 · rintro (rfl | ⟨⟨g, hg, rfl⟩ | ⟨g, hg, rfl⟩, hx⟩)
   · exact .inl ⟨f, by simp, rfl⟩
   · exact .inl ⟨g, by simp [hg], rfl⟩
   · rcases List.mem_cons.1 hg with e | e
     · subst e; exact absurd rfl hx
     · exact .inr ⟨g, e, rfl⟩
 · rintro (⟨g, hg, rfl⟩ | ⟨g, hg, rfl⟩)
   · rcases List.mem_append.1 hg with e | e
     · exact .inr ⟨.inl ⟨g, e, rfl⟩, p3 g e f (by simp)⟩
     · simp at e; subst e; exact .inl rfl
   · exact .inr ⟨.inr ⟨g, by simp [hg], rfl⟩, fun e => p4 g hg e.symm⟩
/-- The program's files while it looks at their names: all empty. -/
structure LzAt (l : List FlI) (k : Nat) (fs : List Fl) : Prop where
 srt : Srt fs
 mem : ∀ x, x ∈ fs ↔ ∃ f ∈ l.take k, x = f.z
theorem LzAt.start (l : List FlI) : LzAt l 0 [] := ⟨by simp [Srt], fun x => by simp⟩
theorem LzAt.seen {l : List FlI} {k : Nat} {fs : List Fl} (h : LzAt l k fs) (n : List UInt8) : (getF n fs).isSome = true ↔ n ∈ (l.take k).map FlI.nm := by
 constructor
 · intro hs
   cases hg : getF n fs with
   | none => rw [hg] at hs; cases hs
   | some x =>
    obtain ⟨hx, hn⟩ := getF_some hg
    obtain ⟨f, hf, rfl⟩ := (h.mem x).1 hx
    rw [← hn]; exact List.mem_map_of_mem hf
 · intro hn
   obtain ⟨f, hf, e⟩ := List.mem_map.1 hn
   cases hg : getF n fs with
   | none => exact absurd e (getF_none hg f.z ((h.mem _).2 ⟨f, hf, rfl⟩))
   | some _ => rfl
theorem LzAt.next {l : List FlI} {k : Nat} {fs : List Fl} {f : FlI} (h : LzAt l k fs) (hf : l[k]? = some f) (hn : getF f.nm fs = none) : LzAt l (k + 1) (insF f.z fs) := by
 refine ⟨srt_ins h.srt fun g hg => getF_none hn g hg, fun x => ?_⟩
 rw [mem_insF, h.mem, take_snocE hf]
 constructor
 · rintro (rfl | ⟨g, hg, rfl⟩)
   · exact ⟨f, by simp, rfl⟩
   · exact ⟨g, by simp [hg], rfl⟩
 · rintro ⟨g, hg, rfl⟩
   rcases List.mem_append.1 hg with e | e
   · exact .inr ⟨g, e, rfl⟩
   · simp at e; subst e; exact .inl rfl
theorem LzAt.ld {l : List FlI} {fs : List Fl} (h : LzAt l l.length fs) : LdAt l 0 fs := ⟨h.srt, fun x => by rw [h.mem, List.take_length]; simp⟩

/-! ### how they lie -/
def FiWf (f : FlI) : Prop := f.nm.length ≤ 9223372036854775807 ∧ -9223372036854775808 ≤ f.sf ∧ f.sf ≤ 9223372036854775807
def fiCells (f : FlI) (a : Option Addr) (c : Nat) : List Value := [.string (bs f.nm), .slice a f.dt.length c, .int .i64 f.sf]
def FiRd (w : World) (T : Nat → Prop) (f : FlI) (a : Option Addr) (c : Nat) : Prop := FiWf f ∧ Rd8 w a f.dt.length c f.dt ∧ BlkIn a f.dt.length T
def RdFi (w : World) (T : Nat → Prop) (a : Option Addr) (n cap : Nat) (l : List FlI) : Prop :=
 n = l.length ∧ BlkIn a n T ∧ ∃ xs, Rd w a n cap 3 xs ∧ ∀ (i : Nat) (f : FlI), l[i]? = some f → ∃ ai ci, (∀ (j : Nat) (u : Value), (fiCells f ai ci)[j]? = some u → xs[i * 3 + j]? = some u) ∧ FiRd w T f ai ci
theorem RdFi.keep {S T : Nat → Prop} {w w' : World} {a : Option Addr} {n cap : Nat} {l : List FlI} (h : RdFi w T a n cap l) (hf : Fr S w w') (hn : ∀ b, T b → ¬ S b) : RdFi w' T a n cap l := by
 obtain ⟨h1, h2, xs, h3, h4⟩ := h
 refine ⟨h1, h2, xs, h3.keep0 hf fun h0 b hb => hn b (h2 h0 b hb), fun i f hi => ?_⟩
 obtain ⟨ai, ci, hc, hw, hr, hb⟩ := h4 i f hi
 exact ⟨ai, ci, hc, hw, hr.keep0 hf fun h0 b hb' => hn b (hb h0 b hb'), hb⟩
theorem RdFi.below {T : Nat → Prop} {w w' : World} {a : Option Addr} {n cap : Nat} {l : List FlI} (h : RdFi w T a n cap l) (hb : Below w.heap.size w w') : RdFi w' T a n cap l := by
 obtain ⟨h1, h2, xs, h3, h4⟩ := h
 refine ⟨h1, h2, xs, h3.below hb, fun i f hi => ?_⟩
 obtain ⟨ai, ci, hc, hw, hr, hb'⟩ := h4 i f hi
 exact ⟨ai, ci, hc, hw, hr.below hb, hb'⟩
theorem RdFi.mono {w : World} {T T' : Nat → Prop} {a : Option Addr} {n cap : Nat} {l : List FlI} (h : RdFi w T a n cap l) (ht : ∀ b, T b → T' b) : RdFi w T' a n cap l := by
 obtain ⟨h1, h2, xs, h3, h4⟩ := h
 refine ⟨h1, fun h0 b hb => ht _ (h2 h0 b hb), xs, h3, fun i f hi => ?_⟩
 obtain ⟨ai, ci, hc, hw, hr, hb'⟩ := h4 i f hi
 exact ⟨ai, ci, hc, hw, hr, fun h0 b hb => ht _ (hb' h0 b hb)⟩
theorem RdFi.at {w : World} {T : Nat → Prop} {a : Option Addr} {n cap : Nat} {l : List FlI} (h : RdFi w T a n cap l) {k : Nat} {f : FlI} (hf : l[k]? = some f) :
 ∃ b off ai ci, a = some ⟨b, off, none⟩ ∧ FiRd w T f ai ci ∧ w.cell? ⟨b, off + k * 3, none⟩ = some (.string (bs f.nm)) ∧ w.cell? ⟨b, off + k * 3 + 1, none⟩ = some (.slice ai f.dt.length ci) ∧ w.cell? ⟨b, off + k * 3 + 2, none⟩ = some (.int .i64 f.sf) := by
 obtain ⟨rfl, h2, xs, h3, h4⟩ := h
 have hk : k < l.length := (List.getElem?_eq_some_iff.1 hf).1
 obtain ⟨ai, ci, hc, hr⟩ := h4 k f hf
 obtain ⟨b, off, rfl, _, hcell⟩ := h3.at (by omega)
 refine ⟨b, off, ai, ci, rfl, hr, hcell _ _ (hc 0 _ rfl), ?_, ?_⟩
 · rw [Nat.add_assoc]; exact hcell _ _ (hc 1 _ rfl)
 · rw [Nat.add_assoc]; exact hcell _ _ (hc 2 _ rfl)
theorem fiAt (w : World) (f : FlI) (a : Option Addr) (c : Nat) : ∃ W, W = w.alloc (.cells #[.string (bs f.nm), .slice a f.dt.length c, .int .i64 f.sf] 26) ∧ Below w.heap.size w W ∧ W.heap.size = w.heap.size + 1 ∧ W.cell? ⟨w.heap.size, 0, none⟩ = some (.string (bs f.nm)) ∧ W.cell? ⟨w.heap.size, 1, none⟩ = some (.slice a f.dt.length c) ∧
 W.cell? ⟨w.heap.size, 2, none⟩ = some (.int .i64 f.sf) := by
 have hg := heap_alloc_new w (.cells #[.string (bs f.nm), .slice a f.dt.length c, .int .i64 f.sf] 26)
 exact ⟨_, rfl, (Below.refl _ _).alloc (Nat.le_refl _) _, by simp, cell_of_row _ _ 0 _ _ _ hg, cell_of_row _ _ 1 _ _ _ hg, cell_of_row _ _ 2 _ _ _ hg⟩
end Go.Proofs.YtjjcilinghgphaaGreat

/-! ### The disk's Load. -/
namespace Go.Proofs.YtjjcilinghgphaaGreat
open Go.RowKit Go.Maps Go.Sort
set_option maxRecDepth 100000
attribute [local go_sem] bs_size bs_toList

theorem Fm.rep {w w' : World} {m : Nat} {L : List Cel} (h : Fm w m L) {c : Cel} (hf : Fr (fun k => k = m) w w') (hm : ∃ n, w'.ownsMap Tryz.prog 9 ptrE m n (mapOf (insC c (delC c.nm L))))
 (hb : w'.heap[c.b]? = some (.cells #[c.v, .int .i64 (c.sf : Nat)] 68 (0, 0))) (ho : OwnC w' c.v c.dt) (hbn : w.heap.size ≤ c.b) (hv : ∀ k, c.v.ownBlock = some k → w.heap.size ≤ k) : Fm w' m (insC c (delC c.nm L)) := by
 have hoff := h.off (q := m) fun cur e fr hq => by obtain ⟨es, ck, hmm⟩ := ownsMap_isMap h.hm; rw [hmm] at hq; cases hq
 have hlt := h.lt
 have hsub : ∀ y ∈ delC c.nm L, y ∈ L := fun y hy => (mem_delC.1 hy).1
 refine ⟨?_, fun y hy => ?_, pairwise_insC (fun a b hab => ⟨fun e => hab.1 e.symm, fun k hk hk' => hab.2 k hk' hk⟩) (h.ap.filter _) fun y hy => ⟨fun e => ?_, fun k hk hk' => ?_⟩⟩
 · obtain ⟨n, hm⟩ := hm
   have := ownsMap_tight hm
   rw [mapOf_size] at this; exact this
 · rcases mem_insC.1 hy with rfl | hy
   · exact ⟨hb, ho⟩
   · have hy := hsub y hy
     exact ⟨(hf.block y.b (hlt y hy).1 (hoff y hy).1).trans (h.hc y hy).1, (h.hc y hy).2.block fun k hk => hf.block k ((hlt y hy).2 k hk) ((hoff y hy).2 k hk)⟩
 · have := (hlt y (hsub y hy)).1; omega
 · have := (hlt y (hsub y hy)).2 k hk'; have := hv k hk; omega
/-- A disk that is being loaded. -/
structure Lp (w : World) (d m : Nat) (sz : Int) (W : World) (L : List Cel) : Prop where
 bel : Below w.heap.size w W
 hd : W.heap[d]? = some (.cells #[.map (some m), .int .i64 sz, .int .i64 0, .int .i64 0, .bool false] 66 (0, 0))
 fm : Fm W m L
 nb : ∀ c ∈ L, w.heap.size ≤ c.b ∧ ∀ k, c.v.ownBlock = some k → w.heap.size ≤ k
theorem Lp.new {w W W1 : World} {d m : Nat} {sz : Int} {L : List Cel} (h : Lp w d m sz W L) (hb : Below W.heap.size W W1) : Lp w d m sz W1 L := by
 have hlt := h.fm.lt
 exact ⟨h.bel.trans (hb.mono h.bel.size), (hb.block d (Array.getElem?_eq_some_iff.1 h.hd).1).trans h.hd, h.fm.keep (hb.block m h.fm.hm.lt) fun c hc => ⟨hb.block _ (hlt c hc).1, fun k hk => hb.block k ((hlt c hc).2 k hk)⟩, h.nb⟩
theorem Lp.rep {w W W1 : World} {d m : Nat} {sz : Int} {L : List Cel} (h : Lp w d m sz W L) {c : Cel} (hf : Fr (fun k => k = m) W W1) (hm' : w.heap.size ≤ m) (hm : ∃ n, W1.ownsMap Tryz.prog 9 ptrE m n (mapOf (insC c (delC c.nm L))))
 (hb : W1.heap[c.b]? = some (.cells #[c.v, .int .i64 (c.sf : Nat)] 68 (0, 0))) (ho : OwnC W1 c.v c.dt) (hbn : W.heap.size ≤ c.b) (hv : ∀ k, c.v.ownBlock = some k → W.heap.size ≤ k) : Lp w d m sz W1 (insC c (delC c.nm L)) := by
 obtain ⟨es, ck, hmm⟩ := ownsMap_isMap h.fm.hm
 have hsz := h.bel.size
 refine ⟨h.bel.trans (hf.below h.bel.size fun k hk e => by omega), (hf.block d (Array.getElem?_eq_some_iff.1 h.hd).1 fun e => ?_).trans h.hd, h.fm.rep hf hm hb ho hbn hv, fun y hy => ?_⟩
 · have h1 := h.hd
   rw [e, hmm] at h1; cases h1
 · rcases mem_insC.1 hy with rfl | hy
   · exact ⟨by omega, fun k hk => by have := hv k hk; omega⟩
   · exact h.nb y (mem_delC.1 hy).1
theorem Lp.scal {w W : World} {d m : Nat} {sz : Int} {L : List Cel} (h : Lp w d m sz W L) (hd : w.heap.size ≤ d) (sz' : Int) : Lp w d m sz' (W.setCell ⟨d, 1, none⟩ (.int .i64 sz')) L := by
 have hlt := h.fm.lt
 obtain ⟨es, ck, hmm⟩ := ownsMap_isMap h.fm.hm
 have fr : Fr (fun q => q = d) W (W.setCell ⟨d, 1, none⟩ (.int .i64 sz')) := (Fr.refl (fun q => q = d) W).setCell (fun _ => rfl) _
 refine ⟨h.bel.setCell (p := ⟨d, 1, none⟩) hd _, row_set h.hd rfl, h.fm.keep (fr.block m h.fm.hm.lt fun e => ?_) (fun c hc => ⟨fr.block _ (hlt c hc).1 fun e => ?_, fun k hk => fr.block k ((hlt c hc).2 k hk) fun e => ?_⟩), h.nb⟩
 · rw [e, h.hd] at hmm; cases hmm
 · have h1 := (h.fm.hc c hc).1
   rw [e, h.hd] at h1; simp at h1
 · obtain ⟨cur, hg⟩ := (h.fm.hc c hc).2.at k hk
   rw [e, h.hd] at hg; simp at hg
theorem Lp.done {w W : World} {d m : Nat} {sz : Int} {L : List Cel} (h : Lp w d m sz W L) {l : List FlI} (hL : L.map Cel.f = loadL l) (hsz : sz = (totI l : Nat)) (hd' : w.heap.size ≤ d) (hm' : w.heap.size ≤ m) (hok : DOk 0 (loadS l)) : DkS 0 W d (fun k => w.heap.size ≤ k ∧ k < W.heap.size) (loadS l) := by
 have hlt := h.fm.lt
 refine ⟨m, L, ⟨by rw [hL, tot_loadL, ← hsz]; exact h.hd, h.fm.hm, h.fm.hc, h.fm.ap⟩, hL, ⟨⟨hd', (Array.getElem?_eq_some_iff.1 h.hd).1⟩, ⟨hm', h.fm.hm.lt⟩, fun c hc => ⟨⟨(h.nb c hc).1, (hlt c hc).1⟩, fun k hk => ⟨(h.nb c hc).2 k hk, (hlt c hc).2 k hk⟩⟩⟩, fun k hk => hk.2, hok⟩
theorem getC_f_none {L : List Cel} {n : List UInt8} (h : getC n L = none) : getF n (L.map Cel.f) = none := by rw [getC_f, h]; rfl
theorem delC_none' {L : List Cel} {n : List UInt8} (h : getC n L = none) : delC n L = L := by
 unfold delC
 rw [List.filter_eq_self]
 intro c hc
 have := getC_none h c hc
 simpa using this
theorem LdAt.done' {l : List FlI} {k : Nat} {fs : List Fl} (h : LdAt l k fs) (hk : k = l.length) (hc : ChkAt l l.length) : fs = loadL l := by subst hk; exact h.done hc
def LoadPost (w : World) (l : List FlI) (e : Ending) (w' : World) : Prop := Below w.heap.size w w' ∧
 ((loadE l ≠ 0 ∧ e = .returned (.tuple #[.pointer none, .int .i64 (loadE l)])) ∨ (loadE l = 0 ∧ DOk 0 (loadS l) ∧ ∃ d, e = .returned (.tuple #[.pointer (some ⟨d, 0, none⟩), .int .i64 0]) ∧ DkS 0 w' d (fun k => w.heap.size ≤ k ∧ k < w'.heap.size) (loadS l)))
theorem LoadPost.err {w w' : World} {l : List FlI} {x : Int} (hb : Below w.heap.size w w') (he : loadE l = x) (h0 : x ≠ 0) : LoadPost w l (.returned (.tuple #[.pointer none, .int .i64 x])) w' := ⟨hb, .inl ⟨by rw [he]; exact h0, by rw [he]⟩⟩
set_option maxHeartbeats 8000000 in
theorem load_any (a : Option Addr) (n cap : Nat) (l : List FlI) (T : Nat → Prop) (w : World) (h : RdFi w T a n cap l) (ht : totI l ≤ 4194304) (hn : n ≤ 100000) :
 Calls Tryz.prog 6 #[.slice a n cap] w (LoadPost w l) := by
 have HR := Lib.hid h
 have HN := Lib.hid h.1
 have HTT := Lib.hid ht
 clear h ht
 go_enter Tryz.func6, Tryz.ntmps6
 go_wp2_with fail
 go_at_call 13
 refine (new_any 0 (Int.le_refl _) w).mono ?_
 rintro e w1 ⟨d, rfl, hb1, m, L0, hD, hL0, hC, hS, hok⟩
 have hL0' : L0 = [] := by simpa [newS] using hL0
 subst hL0'
 have HLP : Hid (Lp w d m 0 w1 []) := ⟨hb1, hD.hd, ⟨hD.hm, hD.hc, hD.ap⟩, fun c hc => by simp at hc⟩
 have HDB : Hid (w.heap.size ≤ d) := hC.1.1
 have HMB : Hid (w.heap.size ≤ m) := hC.2.1.1
 clear hb1 hD hL0 hC hS hok
 go_wp2_with fail
 go_loopw [6, 14] (fun _ i wr => ∃ (k : Nat) (L : List Cel), k ≤ n ∧ i = .int .i64 (k : Nat) ∧ L.length ≤ k ∧ Hid (ChkAt l k) ∧ Hid (LzAt l k (L.map Cel.f)) ∧ Hid (Lp w d m 0 wr L)) (fun _ i _ => n - (intOf i).toNat)
 case atStart => exact ⟨0, [], Nat.zero_le _, rfl, Nat.zero_le _, ChkAt.start l, LzAt.start l, HLP.out⟩
 case round =>
  clear HLP
  obtain ⟨k, L, hk, rfl, hLk, HC, HZ, HL⟩ := hrel
  by_cases hlt : k < n
  · obtain ⟨f, hf⟩ : ∃ f, l[k]? = some f := ⟨_, List.getElem?_eq_getElem (by have := HN.out; omega)⟩
    obtain ⟨b, off, ai, ci, rfl, hrd, q0, q1, q2⟩ := (HR.out.below HL.out.bel).at hf
    obtain ⟨hwf, h8, hbl⟩ := hrd
    obtain ⟨W, hW, hbw, hsz, g0, g1, g2⟩ := fiAt wr f ai ci
    have hW' : wr.alloc (.cells #[.string (bs f.nm), .slice ai f.dt.length ci, .int .i64 f.sf] 26) = W := hW.symm
    have HF := Lib.hid hf
    have HLW := Lib.hid (HL.out.new hbw)
    have HNM := Lib.hid (name_any f.nm W hwf.1)
    have hwf1 := hwf.1
    have hwf2 := hwf.2
    have hd2 := HLW.out.hd
    have c0 := cell_of_row W d 0 _ _ _ hd2
    clear hf hW hbw hsz h8 hbl hwf hd2 HL
    cases hnm : nameOk f.nm with
    | false =>
     have hres := Lib.hid (HC.out.stop HF.out (e := 10) (by unfold chkE; rw [if_pos hnm]) (by decide))
     rw [hnm] at HNM
     clear hnm
     go_wp2_with (go_at_call 22; ((with_reducible refine (HNM.out).mono ?_); rintro e w2 ⟨rfl, rfl⟩))
     go_ret2
     exact LoadPost.err HLW.out.bel hres.out (by decide)
    | true =>
     rw [hnm] at HNM
     have hnl := ((nameOk_iff f.nm).1 hnm).2
     have HOKN := Lib.hid hnm
     clear hnm
     go_wp2_with (go_at_call 22; ((with_reducible refine (HNM.out).mono ?_); rintro e w2 ⟨rfl, rfl⟩))
     have hlk : ∀ i, (Instr.lookup 64 (.map (some m)) (.string (bs f.nm)) false).run Tryz.prog (W.drewN i) = .ok (.pointer ((getC f.nm L).map fun c => ⟨c.b, 0, none⟩)) (W.drewN i) := fun i => look_run (w := W.drewN i) (ownsMap_block HLW.out.fm.hm rfl) f.nm (by unfold maxLen; omega)
     have hseen := HZ.out.seen f.nm
     rw [getC_f] at hseen
     cases hg : getC f.nm L with
     | some c =>
      rw [hg] at hlk hseen
      simp only [Option.map_some] at hlk
      have hres := Lib.hid (HC.out.stop HF.out (e := 9) (by unfold chkE; rw [if_neg (by rw [HOKN.out]; decide), if_pos (hseen.1 rfl)]) (by decide))
      clear hg hseen
      go_wp2_with fail
      go_quiet (fail)
      go_wp2_with fail
      go_ret2
      exact LoadPost.err (HLW.out.bel.trans ⟨rfl, rfl, rfl, Nat.le_refl _, fun _ _ => rfl⟩) hres.out (by decide)
     | none =>
      rw [hg] at hlk hseen
      simp only [Option.map_none] at hlk
      have HNS : Hid (f.nm ∉ (l.take k).map FlI.nm) := fun hmm => by have := hseen.2 hmm; simp at this
      have HGN := Lib.hid hg
      clear hg hseen
      go_wp2_with fail
      go_quiet (fail)
      by_cases hbad : f.sf < 0 ∨ (f.dt.length : Int) < f.sf
      · have hres := Lib.hid (HC.out.stop HF.out (e := 1) (by unfold chkE; rw [if_neg (by rw [HOKN.out]; decide), if_neg HNS.out, if_pos hbad]) (by decide))
        by_cases hneg : f.sf < 0
        case' pos => have d1 : decide (f.sf < 0) = true := by simpa using hneg
        case' neg =>
         have d1 : decide (f.sf < 0) = false := by simpa using hneg
         have hgt : (f.dt.length : Int) < f.sf := hbad.resolve_left hneg
         have d2 : decide ((f.dt.length : Int) < f.sf) = true := by simpa using hgt
        all_goals
         clear hbad
         go_wp2_with fail
         go_ret2
         exact LoadPost.err (HLW.out.bel.trans ⟨rfl, rfl, rfl, Nat.le_refl _, fun _ _ => rfl⟩) hres.out (by decide)
      · have hs0 : 0 ≤ f.sf := by omega
        have hs1 : f.sf ≤ f.dt.length := by omega
        have d1 : decide (f.sf < 0) = false := by simpa using hs0
        have d2 : decide ((f.dt.length : Int) < f.sf) = false := by simpa using hs1
        have HC2 := Lib.hid (HC.out.next HF.out HOKN.out HNS.out hs0 hs1)
        have HZ2 := Lib.hid (HZ.out.next HF.out (getC_f_none HGN.out))
        clear hbad hlk
        go_wp2_with fail
        clear d1 d2 q0 q1 q2 g1 g2
        refine wp_region_ht 8 (fun W => W.cell? ⟨d, 0, none⟩ = some (.map (some m)) ∧ W.cell? ⟨wr.heap.size, 0, none⟩ = some (.string (bs f.nm))) (by kernel_rfl) (by kernel_rfl) ?_ (fun hHeld => ?_)
        · exact ⟨c0, g0⟩
        try simp only [Act.put, List.setIfInBounds_toArray, List.set_cons_zero, List.set_cons_succ]
        refine wpHT_takeD (i := 0) (d := 44) (v := ?_) (by kernel_rfl) rfl rfl (by decide) (by kernel_rfl) (by kernel_rfl) (fun _ _ _ h => h) (Or.inl ⟨by kernel_rfl, ?_⟩) (by assumption) ?_
        rotate_left
        · intro w hSw; (try dsimp only at hSw); go_simp; (try with_reducible rfl)
        try simp only [Act.put, List.setIfInBounds_toArray, List.set_cons_zero, List.set_cons_succ]
        refine wpHT_takeD (i := 1) (d := 45) (v := ?_) (by kernel_rfl) rfl rfl (by decide) (by kernel_rfl) (by kernel_rfl) (fun _ _ _ h => h) (Or.inl ⟨by kernel_rfl, ?_⟩) (by assumption) ?_
        rotate_left
        · intro w hSw; (try dsimp only at hSw); go_simp; (try with_reducible rfl)
        try simp only [Act.put, List.setIfInBounds_toArray, List.set_cons_zero, List.set_cons_succ]
        refine wpHT_takeD (i := 2) (d := 46) (v := ?_) (by kernel_rfl) rfl rfl (by decide) (by kernel_rfl) (by kernel_rfl) (fun _ _ _ h => h) (Or.inl ⟨by kernel_rfl, ?_⟩) (by assumption) ?_
        rotate_left
        · intro w hSw; (try dsimp only at hSw); go_simp; (try with_reducible rfl)
        try simp only [Act.put, List.setIfInBounds_toArray, List.set_cons_zero, List.set_cons_succ]
        refine wpHT_takeD (i := 3) (d := 47) (v := ?_) (by kernel_rfl) rfl rfl (by decide) (by kernel_rfl) (by kernel_rfl) (fun _ _ _ h => h) (Or.inl ⟨by kernel_rfl, ?_⟩) (by assumption) ?_
        rotate_left
        · intro w hSw; (try dsimp only at hSw); go_simp; (try with_reducible rfl)
        try simp only [Act.put, List.setIfInBounds_toArray, List.set_cons_zero, List.set_cons_succ]
        refine wpHT_takeD (i := 4) (d := 48) (v := ?_) (by kernel_rfl) rfl rfl (by decide) (by kernel_rfl) (by kernel_rfl) (fun _ _ _ h => h) (Or.inl ⟨by kernel_rfl, ?_⟩) (by assumption) ?_
        rotate_left
        · intro w hSw; (try dsimp only at hSw); go_simp; (try with_reducible rfl)
        try simp only [Act.put, List.setIfInBounds_toArray, List.set_cons_zero, List.set_cons_succ]
        refine wpHT_takeD (i := 5) (d := 49) (v := ?_) (by kernel_rfl) rfl rfl (by decide) (by kernel_rfl) (by kernel_rfl) (fun _ _ _ h => h) (Or.inl ⟨by kernel_rfl, ?_⟩) (by assumption) ?_
        rotate_left
        · intro w hSw; (try dsimp only at hSw); go_simp; (try with_reducible rfl)
        try simp only [Act.put, List.setIfInBounds_toArray, List.set_cons_zero, List.set_cons_succ]
        refine wpHT_takeD (i := 6) (d := 50) (v := ?_) (by kernel_rfl) rfl rfl (by decide) (by kernel_rfl) (by kernel_rfl) (fun _ _ _ h => h) (Or.inl ⟨by kernel_rfl, ?_⟩) (by assumption) ?_
        rotate_left
        · intro w hSw; (try dsimp only at hSw); go_simp; (try with_reducible rfl)
        try simp only [Act.put, List.setIfInBounds_toArray, List.set_cons_zero, List.set_cons_succ]
        refine wpHT_one (i := 7) (by kernel_rfl) rfl (by decide) (fun K hK => ?_)
        go_simp
        refine hK.out _ _ ?_ (fun hHeld => ?_)
        · exact ⟨cell_alloc_keep c0, cell_alloc_keep g0⟩
        clear hK K
        try simp only [Act.put, List.setIfInBounds_toArray, List.set_cons_zero, List.set_cons_succ]
        refine wpHT_done (by kernel_rfl) ?_
        simp only [List.drop_succ_cons, List.drop_zero]
        clear hHeld
        go_wp2_with (at_mapUpdate; refine wpList_mapUpdate_own _ rfl _ _ _ 64 rfl 9 63 strKeyed Tryz.underlying64 ptrE m L.length (mapOf L) rfl (ownsMap_block HLW.out.fm.hm (((((Fr.refl (fun _ => False) W).drewN _).drew).alloc _).block m HLW.out.fm.hm.lt id)) (by unfold maxLen; omega) _ _ (.string f.nm) rfl rfl (keyS f.nm (by unfold maxLen; omega)) (fileLit W.heap.size) [] rfl ?_; intro w4 hown4 hgrow4)
        rw [show (mapOf L).put (.string f.nm) (fileLit W.heap.size) = mapOf (insC ⟨f.nm, [], 0, W.heap.size, .slice none 0 0⟩ (delC f.nm L)) from mapOf_put L ⟨f.nm, [], 0, W.heap.size, .slice none 0 0⟩] at hown4
        have hf4 : Fr (fun k => k = m) W w4 := ((((Fr.refl (fun k => k = m) W).drewN _).drew).alloc _).grown hgrow4 (fun k _ h => (Option.some.inj h).symm)
        have hmW := HLW.out.fm.hm.lt
        have hlp := HLW.out.rep (c := ⟨f.nm, [], 0, W.heap.size, .slice none 0 0⟩) hf4 HMB.out ⟨_, hown4⟩
         ((hgrow4.block W.heap.size (Array.getElem?_eq_some_iff.1 (heap_alloc_new _ _)).1 (fun e => by have := Option.some.inj e; omega)).trans (heap_alloc_new _ _)) (.inl ⟨rfl, rfl⟩) (Nat.le_refl _) (fun k hk => by cases hk)
        have hdl : delC f.nm L = L := delC_none' HGN.out
        have hmap : (insC (⟨f.nm, [], 0, W.heap.size, .slice none 0 0⟩ : Cel) (delC f.nm L)).map Cel.f = insF f.z (L.map Cel.f) := by rw [hdl, insC_f]; rfl
        have hlen : (insC (⟨f.nm, [], 0, W.heap.size, .slice none 0 0⟩ : Cel) (delC f.nm L)).length ≤ k + 1 := by
         have h1 := congrArg List.length hmap
         rw [List.length_map, len_ins, List.length_map] at h1; omega
        have HLP := Lib.hid hlp
        have HMAP := Lib.hid hmap
        clear hown4 hgrow4 hf4 hlp hdl hmap hmW c0 g0
        go_wp2_with fail
        go_roundw
        case rel => exact ⟨k + 1, _, by omega, by go_num, hlen, HC2.out, by show LzAt _ _ _; rw [HMAP.out]; exact HZ2.out, HLP.out⟩
        case measure => simp [intOf]; omega
  · obtain rfl : k = n := by omega
    have hCk : ChkAt l l.length := by have := HC.out; rw [HN.out] at this; exact this
    have HCF := Lib.hid hCk
    have HLD : Hid (LdAt l 0 (L.map Cel.f)) := by have := HZ.out; rw [HN.out] at this; exact this.ld
    by_cases h64 : 64 < k
    · have hres := Lib.hid (hCk.many (by rw [← HN.out]; exact h64))
      clear hCk
      go_wp2_with fail
      go_ret2
      exact LoadPost.err HL.out.bel hres.out (by decide)
    · have hres := Lib.hid (hCk.fine (by rw [← HN.out]; omega))
      clear hCk
      have hlk' : L.length ≤ k := hLk
      go_wp2_with fail
      go_loopw [8, 58] (fun _ i wx => ∃ (j : Nat), j ≤ k ∧ i = .int .i64 (j : Nat) ∧ Hid (Lp w d m ((totI (l.take j) : Nat) : Int) wx L)) (fun _ i _ => k - (intOf i).toNat)
      case atStart => exact ⟨0, Nat.zero_le _, rfl, by show Lp _ _ _ _ _ _; have := HL.out; simpa [totI] using this⟩
      case round =>
       clear HL
       obtain ⟨j, hj, rfl, HL⟩ := hrel
       by_cases hlt : j < k
       · obtain ⟨f, hf⟩ : ∃ f, l[j]? = some f := ⟨_, List.getElem?_eq_getElem (by have := HN.out; omega)⟩
         obtain ⟨b, off, ai, ci, rfl, hrd, q0, q1, q2⟩ := (HR.out.below HL.out.bel).at hf
         obtain ⟨hwf, h8, hbl⟩ := hrd
         obtain ⟨W, hW, hbw, hsz, g0, g1, g2⟩ := fiAt wr f ai ci
         have hW' : wr.alloc (.cells #[.string (bs f.nm), .slice ai f.dt.length ci, .int .i64 f.sf] 26) = W := hW.symm
         have HLW := Lib.hid (HL.out.new hbw)
         have htn := totI_next hf
         have htl := totI_take_le l (j + 1)
         have hT4 := HTT.out
         obtain ⟨U, hU⟩ : ∃ U, totI (l.take j) = U := ⟨_, rfl⟩
         rw [hU] at htn HLW
         have HTN := Lib.hid htn
         have hUb : U + f.dt.length ≤ 4194304 := by omega
         have hd2 := HLW.out.hd
         have c1 := cell_of_row W d 1 _ _ _ hd2
         have f1 := frozen_of_row W d 1 _ _ hd2
         have dT : decide ((4194304 : Int) - (U : Nat) < (f.dt.length : Nat)) = false := by simp; omega
         clear hf hW hbw hsz h8 hbl hwf hd2 HL htn htl hT4 hU
         go_wp2_with fail
         go_quiet (fail)
         go_wp2_with fail
         clear dT q0 q1 q2 g0 g2
         refine wp_region_ht 10 (fun W => W.cell? ⟨d, 1, none⟩ = some (.int .i64 (U : Nat)) ∧ W.cell? ⟨wr.heap.size, 1, none⟩ = some (.slice ai f.dt.length ci)) (by kernel_rfl) (by kernel_rfl) ?_ (fun hHeld => ?_)
         · exact ⟨c1, g1⟩
         try simp only [Act.put, List.setIfInBounds_toArray, List.set_cons_zero, List.set_cons_succ]
         refine wpHT_takeD (i := 0) (d := 71) (v := ?_) (by kernel_rfl) rfl rfl (by decide) (by kernel_rfl) (by kernel_rfl) (fun _ _ _ h => h) (Or.inl ⟨by kernel_rfl, ?_⟩) (by assumption) ?_
         rotate_left
         · intro w hSw; (try dsimp only at hSw); go_simp; (try with_reducible rfl)
         try simp only [Act.put, List.setIfInBounds_toArray, List.set_cons_zero, List.set_cons_succ]
         refine wpHT_takeD (i := 1) (d := 72) (v := ?_) (by kernel_rfl) rfl rfl (by decide) (by kernel_rfl) (by kernel_rfl) (fun _ _ _ h => h) (Or.inl ⟨by kernel_rfl, ?_⟩) (by assumption) ?_
         rotate_left
         · intro w hSw; (try dsimp only at hSw); go_simp; (try with_reducible rfl)
         try simp only [Act.put, List.setIfInBounds_toArray, List.set_cons_zero, List.set_cons_succ]
         refine wpHT_takeD (i := 2) (d := 73) (v := ?_) (by kernel_rfl) rfl rfl (by decide) (by kernel_rfl) (by kernel_rfl) (fun _ _ _ h => h) (Or.inl ⟨by kernel_rfl, ?_⟩) (by assumption) ?_
         rotate_left
         · intro w hSw; (try dsimp only at hSw); go_simp; (try with_reducible rfl)
         try simp only [Act.put, List.setIfInBounds_toArray, List.set_cons_zero, List.set_cons_succ]
         refine wpHT_takeD (i := 3) (d := 74) (v := ?_) (by kernel_rfl) rfl rfl (by decide) (by kernel_rfl) (by kernel_rfl) (fun _ _ _ h => h) (Or.inl ⟨by kernel_rfl, ?_⟩) (by assumption) ?_
         rotate_left
         · intro w hSw; (try dsimp only at hSw); go_simp; (try with_reducible rfl)
         try simp only [Act.put, List.setIfInBounds_toArray, List.set_cons_zero, List.set_cons_succ]
         refine wpHT_takeD (i := 4) (d := 75) (v := ?_) (by kernel_rfl) rfl rfl (by decide) (by kernel_rfl) (by kernel_rfl) (fun _ _ _ h => h) (Or.inl ⟨by kernel_rfl, ?_⟩) (by assumption) ?_
         rotate_left
         · intro w hSw; (try dsimp only at hSw); go_simp; (try with_reducible rfl)
         try simp only [Act.put, List.setIfInBounds_toArray, List.set_cons_zero, List.set_cons_succ]
         refine wpHT_takeD (i := 5) (d := 76) (v := ?_) (by kernel_rfl) rfl rfl (by decide) (by kernel_rfl) (by kernel_rfl) (fun _ _ _ h => h) (Or.inl ⟨by kernel_rfl, ?_⟩) (by assumption) ?_
         rotate_left
         · intro w hSw; (try dsimp only at hSw); go_simp; (try with_reducible rfl)
         try simp only [Act.put, List.setIfInBounds_toArray, List.set_cons_zero, List.set_cons_succ]
         refine wpHT_takeD (i := 6) (d := 77) (v := ?_) (by kernel_rfl) rfl rfl (by decide) (by kernel_rfl) (by kernel_rfl) (fun _ _ _ h => h) (Or.inl ⟨by kernel_rfl, ?_⟩) (by assumption) ?_
         rotate_left
         · intro w hSw; (try dsimp only at hSw); go_simp; (try with_reducible rfl)
         try simp only [Act.put, List.setIfInBounds_toArray, List.set_cons_zero, List.set_cons_succ]
         refine wpHT_takeD (i := 7) (d := 78) (v := ?_) (by kernel_rfl) rfl rfl (by decide) (by kernel_rfl) (by kernel_rfl) (fun _ _ _ h => h) (Or.inl ⟨by kernel_rfl, ?_⟩) (by assumption) ?_
         rotate_left
         · intro w hSw; (try dsimp only at hSw); go_simp; (try with_reducible rfl)
         try simp only [Act.put, List.setIfInBounds_toArray, List.set_cons_zero, List.set_cons_succ]
         refine wpHT_takeD (i := 8) (d := 79) (v := ?_) (by kernel_rfl) rfl rfl (by decide) (by kernel_rfl) (by kernel_rfl) (fun _ _ _ h => h) (Or.inl ⟨by kernel_rfl, ?_⟩) (by assumption) ?_
         rotate_left
         · intro w hSw; (try dsimp only at hSw); go_simp; (try with_reducible rfl)
         try simp only [Act.put, List.setIfInBounds_toArray, List.set_cons_zero, List.set_cons_succ]
         refine wpHT_takeD (i := 9) (d := 80) (v := ?_) (by kernel_rfl) rfl rfl (by decide) (by kernel_rfl) (by kernel_rfl) (fun _ _ _ h => h) (Or.inl ⟨by kernel_rfl, ?_⟩) (by assumption) ?_
         rotate_left
         · intro w hSw; (try dsimp only at hSw); go_simp; (try with_reducible rfl)
         try simp only [Act.put, List.setIfInBounds_toArray, List.set_cons_zero, List.set_cons_succ]
         refine wpHT_done (by kernel_rfl) ?_
         simp only [List.drop_succ_cons, List.drop_zero]
         clear hHeld g1
         go_wp2_with fail
         go_roundw
         case rel =>
          have h1 := (HLW.out.new (W1 := (W.drewN nq).drew) ⟨rfl, rfl, rfl, Nat.le_refl _, fun _ _ => rfl⟩).scal HDB.out ((U : Int) + (f.dt.length : Nat))
          exact ⟨j + 1, by omega, by go_num, by rw [HTN.out]; exact h1⟩
         case measure => simp [intOf]; omega
       · obtain rfl : j = k := by omega
         go_wp2_with fail
         go_loopw [10, 84] (fun _ i wx => ∃ (q : Nat) (L' : List Cel), q ≤ j ∧ i = .int .i64 (q : Nat) ∧ L'.length ≤ j + q ∧ Hid (LdAt l q (L'.map Cel.f)) ∧ Hid (Lp w d m ((totI l : Nat) : Int) wx L')) (fun _ i _ => j - (intOf i).toNat)
         case atStart => exact ⟨0, L, Nat.zero_le _, rfl, by omega, HLD.out, by have := HL.out; rw [List.take_of_length_le (by rw [HN.out]; exact Nat.le_refl _)] at this; exact this⟩
         case round =>
          clear HL HLD
          obtain ⟨q, L', hq, rfl, hLq, HLD, HL⟩ := hrel
          by_cases hlt : q < j
          · obtain ⟨f, hf⟩ : ∃ f, l[q]? = some f := ⟨_, List.getElem?_eq_getElem (by have := HN.out; omega)⟩
            obtain ⟨b, off, ai, ci, rfl, hrd, q0, q1, q2⟩ := (HR.out.below HL.out.bel).at hf
            obtain ⟨hwf, h8, hbl⟩ := hrd
            obtain ⟨W, hW, hbw, hsz, g0, g1, g2⟩ := fiAt wr f ai ci
            have hW' : wr.alloc (.cells #[.string (bs f.nm), .slice ai f.dt.length ci, .int .i64 f.sf] 26) = W := hW.symm
            have HLW := Lib.hid (HL.out.new hbw)
            obtain ⟨ok1, ok2, ok3⟩ := HCF.out.each f (by rw [List.take_length]; exact List.mem_of_getElem? hf)
            obtain ⟨sf, hsf⟩ : ∃ sf : Nat, f.sf = (sf : Int) := ⟨f.sf.toNat, by omega⟩
            have hfl : f.fl = ⟨f.nm, f.dt, sf⟩ := by unfold FlI.fl; rw [hsf]; rfl
            have hnl := ((nameOk_iff f.nm).1 ok1).2
            have hdl : f.dt.length ≤ 4194304 := by
             have h1 := totI_next hf
             have h2 := totI_take_le l (q + 1)
             have h3 := HTT.out
             omega
            rw [hsf] at g2
            have HNX := Lib.hid (HLD.out.next HCF.out hf)
            rw [hfl] at HNX
            have H8 := Lib.hid (h8.below hbw)
            have hd2 := HLW.out.hd
            have c0 := cell_of_row W d 0 _ _ _ hd2
            clear hf hW hbw hsz h8 hbl hwf hd2 HL ok1 ok2 ok3 hfl hsf
            go_wp2_with fail
            clear q0 q1 q2
            refine wp_region_ht 14 (fun W => W.cell? ⟨d, 0, none⟩ = some (.map (some m)) ∧ W.cell? ⟨wr.heap.size, 0, none⟩ = some (.string (bs f.nm)) ∧ W.cell? ⟨wr.heap.size, 1, none⟩ = some (.slice ai f.dt.length ci) ∧ W.cell? ⟨wr.heap.size, 2, none⟩ = some (.int .i64 (sf : Nat))) (by kernel_rfl) (by kernel_rfl) ?_ (fun hHeld => ?_)
            · exact ⟨c0, g0, g1, g2⟩
            try simp only [Act.put, List.setIfInBounds_toArray, List.set_cons_zero, List.set_cons_succ]
            refine wpHT_takeD (i := 0) (d := 88) (v := ?_) (by kernel_rfl) rfl rfl (by decide) (by kernel_rfl) (by kernel_rfl) (fun _ _ _ h => h) (Or.inl ⟨by kernel_rfl, ?_⟩) (by assumption) ?_
            rotate_left
            · intro w hSw; (try dsimp only at hSw); go_simp; (try with_reducible rfl)
            try simp only [Act.put, List.setIfInBounds_toArray, List.set_cons_zero, List.set_cons_succ]
            refine wpHT_takeD (i := 1) (d := 89) (v := ?_) (by kernel_rfl) rfl rfl (by decide) (by kernel_rfl) (by kernel_rfl) (fun _ _ _ h => h) (Or.inl ⟨by kernel_rfl, ?_⟩) (by assumption) ?_
            rotate_left
            · intro w hSw; (try dsimp only at hSw); go_simp; (try with_reducible rfl)
            try simp only [Act.put, List.setIfInBounds_toArray, List.set_cons_zero, List.set_cons_succ]
            refine wpHT_takeD (i := 2) (d := 90) (v := ?_) (by kernel_rfl) rfl rfl (by decide) (by kernel_rfl) (by kernel_rfl) (fun _ _ _ h => h) (Or.inl ⟨by kernel_rfl, ?_⟩) (by assumption) ?_
            rotate_left
            · intro w hSw; (try dsimp only at hSw); go_simp; (try with_reducible rfl)
            try simp only [Act.put, List.setIfInBounds_toArray, List.set_cons_zero, List.set_cons_succ]
            refine wpHT_takeD (i := 3) (d := 91) (v := ?_) (by kernel_rfl) rfl rfl (by decide) (by kernel_rfl) (by kernel_rfl) (fun _ _ _ h => h) (Or.inl ⟨by kernel_rfl, ?_⟩) (by assumption) ?_
            rotate_left
            · intro w hSw; (try dsimp only at hSw); go_simp; (try with_reducible rfl)
            try simp only [Act.put, List.setIfInBounds_toArray, List.set_cons_zero, List.set_cons_succ]
            refine wpHT_takeD (i := 4) (d := 92) (v := ?_) (by kernel_rfl) rfl rfl (by decide) (by kernel_rfl) (by kernel_rfl) (fun _ _ _ h => h) (Or.inl ⟨by kernel_rfl, ?_⟩) (by assumption) ?_
            rotate_left
            · intro w hSw; (try dsimp only at hSw); go_simp; (try with_reducible rfl)
            try simp only [Act.put, List.setIfInBounds_toArray, List.set_cons_zero, List.set_cons_succ]
            refine wpHT_takeD (i := 5) (d := 93) (v := ?_) (by kernel_rfl) rfl rfl (by decide) (by kernel_rfl) (by kernel_rfl) (fun _ _ _ h => h) (Or.inl ⟨by kernel_rfl, ?_⟩) (by assumption) ?_
            rotate_left
            · intro w hSw; (try dsimp only at hSw); go_simp; (try with_reducible rfl)
            try simp only [Act.put, List.setIfInBounds_toArray, List.set_cons_zero, List.set_cons_succ]
            refine wpHT_takeD (i := 7) (d := 95) (v := ?_) (by kernel_rfl) rfl rfl (by decide) (by kernel_rfl) (by kernel_rfl) (fun _ _ _ h => h) (Or.inl ⟨by kernel_rfl, ?_⟩) (by assumption) ?_
            rotate_left
            · intro w hSw; (try dsimp only at hSw); go_simp; (try with_reducible rfl)
            try simp only [Act.put, List.setIfInBounds_toArray, List.set_cons_zero, List.set_cons_succ]
            refine wpHT_takeD (i := 8) (d := 96) (v := ?_) (by kernel_rfl) rfl rfl (by decide) (by kernel_rfl) (by kernel_rfl) (fun _ _ _ h => h) (Or.inl ⟨by kernel_rfl, ?_⟩) (by assumption) ?_
            rotate_left
            · intro w hSw; (try dsimp only at hSw); go_simp; (try with_reducible rfl)
            try simp only [Act.put, List.setIfInBounds_toArray, List.set_cons_zero, List.set_cons_succ]
            refine wpHT_takeD (i := 10) (d := 98) (v := ?_) (by kernel_rfl) rfl rfl (by decide) (by kernel_rfl) (by kernel_rfl) (fun _ _ _ h => h) (Or.inl ⟨by kernel_rfl, ?_⟩) (by assumption) ?_
            rotate_left
            · intro w hSw; (try dsimp only at hSw); go_simp; (try with_reducible rfl)
            try simp only [Act.put, List.setIfInBounds_toArray, List.set_cons_zero, List.set_cons_succ]
            refine wpHT_takeD (i := 11) (d := 99) (v := ?_) (by kernel_rfl) rfl rfl (by decide) (by kernel_rfl) (by kernel_rfl) (fun _ _ _ h => h) (Or.inl ⟨by kernel_rfl, ?_⟩) (by assumption) ?_
            rotate_left
            · intro w hSw; (try dsimp only at hSw); go_simp; (try with_reducible rfl)
            try simp only [Act.put, List.setIfInBounds_toArray, List.set_cons_zero, List.set_cons_succ]
            refine wpHT_one (i := 6) (by kernel_rfl) rfl (by decide) (fun K hK => ?_)
            go_simp
            refine hK.out _ _ ?_ (fun hHeld => ?_)
            · exact ⟨cell_alloc_keep (w := W.drew) c0, cell_alloc_keep (w := W.drew) g0, cell_alloc_keep (w := W.drew) g1, cell_alloc_keep (w := W.drew) g2⟩
            clear hK K
            try simp only [Act.put, List.setIfInBounds_toArray, List.set_cons_zero, List.set_cons_succ]
            refine wpHT_one (i := 9) (by kernel_rfl) rfl (by decide) (fun K hK => ?_)
            refine step_app2 S5 rfl _ _ rfl W.heap.size rfl (made0 W.drew) rfl (H8.out.below ((Below.refl _ W).drew.alloc (Nat.le_refl _) _)).2 (B8_one _) (by omega) (by unfold maxLen; omega) ((Below.refl 0 W.drew).alloc (Nat.zero_le _) _).size ?_
            intro v2 w2 ho2 hg2 hl2
            have ho2 : Own8 w2 W.heap.size 5 v2 f.dt := Own8.mk ho2 (by simp) (by simp)
            obtain ⟨a2, cap2, rfl, hrd2⟩ := ho2.rd
            have hb2 : Below W.heap.size W w2 := ((Below.refl _ W).drew.alloc (Nat.le_refl _) _).grown hg2 ((Below.refl 0 W.drew).alloc (Nat.zero_le _) _).size (fun k hk => Nat.le_of_eq (Option.some.inj hk))
            have g0 := cell_below g0 hb2
            have g1 := cell_below g1 hb2
            have g2 := cell_below g2 hb2
            have c0 := cell_below c0 hb2
            have HO2 := Lib.hid ho2
            have HB2 := Lib.hid hb2
            clear ho2 hg2 hl2 hrd2 hb2
            refine hK.out _ _ ?_ (fun hHeld => ?_)
            · exact ⟨c0, g0, g1, g2⟩
            clear hK K
            try simp only [Act.put, List.setIfInBounds_toArray, List.set_cons_zero, List.set_cons_succ]
            refine wpHT_takeD (i := 12) (d := 100) (v := ?_) (by kernel_rfl) rfl rfl (by decide) (by kernel_rfl) (by kernel_rfl) (fun _ _ _ h => h) (Or.inl ⟨by kernel_rfl, ?_⟩) (by assumption) ?_
            rotate_left
            · intro w hSw; (try dsimp only at hSw); go_simp; (try with_reducible rfl)
            try simp only [Act.put, List.setIfInBounds_toArray, List.set_cons_zero, List.set_cons_succ]
            refine wpHT_one (i := 13) (by kernel_rfl) rfl (by decide) (fun K hK => ?_)
            go_simp
            refine hK.out _ _ ?_ (fun hHeld => ?_)
            · exact ⟨cell_alloc_keep c0, cell_alloc_keep g0, cell_alloc_keep g1, cell_alloc_keep g2⟩
            clear hK K
            try simp only [Act.put, List.setIfInBounds_toArray, List.set_cons_zero, List.set_cons_succ]
            refine wpHT_done (by kernel_rfl) ?_
            simp only [List.drop_succ_cons, List.drop_zero]
            clear hHeld
            have HL2 := Lib.hid (HLW.out.new HB2.out)
            go_wp2_with (at_mapUpdate; refine wpList_mapUpdate_own _ rfl _ _ _ 64 rfl 9 63 strKeyed Tryz.underlying64 ptrE m L'.length (mapOf L') rfl (ownsMap_block HL2.out.fm.hm (((Below.refl _ w2).alloc (Nat.le_refl _) _).block m HL2.out.fm.hm.lt)) (by unfold maxLen; omega) _ _ (.string f.nm) rfl rfl (keyS f.nm (by unfold maxLen; omega)) (fileLit w2.heap.size) [] rfl ?_; intro w4 hown4 hgrow4)
            rw [show (mapOf L').put (.string f.nm) (fileLit w2.heap.size) = mapOf (insC ⟨f.nm, f.dt, sf, w2.heap.size, .slice a2 f.dt.length cap2⟩ (delC f.nm L')) from mapOf_put L' ⟨f.nm, f.dt, sf, w2.heap.size, .slice a2 f.dt.length cap2⟩] at hown4
            have hf4 : Fr (fun k => k = m) W w4 := ((Fr.of_new HB2.out).alloc _).grown hgrow4 (fun k _ h => (Option.some.inj h).symm)
            have hmW := HLW.out.fm.hm.lt
            have hs2 := HB2.out.size
            have hlp := HLW.out.rep (c := ⟨f.nm, f.dt, sf, w2.heap.size, .slice a2 f.dt.length cap2⟩) hf4 HMB.out ⟨_, hown4⟩
             ((hgrow4.block w2.heap.size (Array.getElem?_eq_some_iff.1 (heap_alloc_new _ _)).1 (fun e => by have := Option.some.inj e; omega)).trans (heap_alloc_new w2 _))
             ((OwnC.of_own HO2.out).block fun k hk => (hgrow4.block k (Nat.lt_of_lt_of_le (World.ownsRow.lt HO2.out k hk).2 ((Below.refl 0 w2).alloc (Nat.zero_le _) _).size) (fun e => by have := Option.some.inj e; have := (World.ownsRow.lt HO2.out k hk).1; omega)).trans (((Below.refl _ w2).alloc (Nat.le_refl _) _).block k (World.ownsRow.lt HO2.out k hk).2))
             hs2 (fun k hk => (World.ownsRow.lt HO2.out k hk).1)
            have hmap : (insC (⟨f.nm, f.dt, sf, w2.heap.size, .slice a2 f.dt.length cap2⟩ : Cel) (delC f.nm L')).map Cel.f = insF ⟨f.nm, f.dt, sf⟩ (delF f.nm (L'.map Cel.f)) := by rw [insC_f, delC_f]; rfl
            have hlen : (insC (⟨f.nm, f.dt, sf, w2.heap.size, .slice a2 f.dt.length cap2⟩ : Cel) (delC f.nm L')).length ≤ j + (q + 1) := by
             have h1 := congrArg List.length hmap
             rw [List.length_map, len_ins] at h1
             have h2 : (delF f.nm (L'.map Cel.f)).length ≤ (L'.map Cel.f).length := List.length_filter_le _ _
             rw [List.length_map] at h2
             omega
            have HLP := Lib.hid hlp
            have HMAP := Lib.hid hmap
            clear hown4 hgrow4 hf4 hlp hmap hmW c0 g0 g1 g2 hs2
            go_wp2_with fail
            go_roundw
            case rel => exact ⟨q + 1, _, by omega, by go_num, hlen, by show LdAt _ _ _; rw [HMAP.out]; exact HNX.out, HLP.out⟩
            case measure => simp [intOf]; omega
          · obtain rfl : q = j := by omega
            have hfin := HL.out.done (HLD.out.done' HN.out HCF.out) rfl HDB.out HMB.out (HCF.out.ok (by rw [← HN.out]; omega) HTT.out (Int.le_refl _))
            have HFIN := Lib.hid hfin
            have HOK := Lib.hid (HCF.out.ok (by rw [← HN.out]; omega) HTT.out (Int.le_refl 0))
            clear hfin
            go_wp2_with fail
            go_ret2
            exact ⟨HL.out.bel, .inr ⟨hres.out, HOK.out, d, rfl, HFIN.out⟩⟩
end Go.Proofs.YtjjcilinghgphaaGreat

/-! ### The reference's Load. -/
namespace Go.Proofs.YtjjcilinghgphaaGreat
open Go.RowKit Go.Maps Go.Sort
set_option maxRecDepth 100000
attribute [local go_sem] bs_size bs_toList

set_option maxHeartbeats 1000000 in
/-- The place of a name, in a longer list. -/
theorem at_many (c : Nat) (S : Nat → Prop) (s : DS) (n : List UInt8) (hl : s.fs.length ≤ 100000) (w : World) (h : Rf w c S s) :
 Calls Tryz.prog 24 #[.pointer (some ⟨c, 0, none⟩), .string (bs n)] w fun e w' => e = .returned (.int .i64 (atI n s.fs)) ∧ w = w' := by
 obtain ⟨a, cap, c0, _, _, _, hr⟩ := h.row
 clear h
 obtain ⟨m, hm⟩ : ∃ m, s.fs.length = m := ⟨_, rfl⟩
 rw [hm] at c0 hr hl
 have HR := Lib.hid hr
 have HM := Lib.hid hm
 clear hr hm
 go_enter Tryz.func24, Tryz.ntmps24
 go_wp2
 go_loopw [5] (fun i wr => ∃ k : Nat, k ≤ m ∧ i = .int .i64 k ∧ w = wr ∧ Hid (∀ g ∈ s.fs.take k, g.nm ≠ n)) (fun i _ => m - (intOf i).toNat)
 case atStart => exact ⟨0, Nat.zero_le _, rfl, rfl, fun g hg => by simp at hg⟩
 case round =>
  obtain ⟨k, hk, rfl, rfl, HT⟩ := hrel
  by_cases hlt : k < m
  · obtain ⟨f, hf⟩ : ∃ f, s.fs[k]? = some f := ⟨_, List.getElem?_eq_getElem (by have := HM.out; omega)⟩
    obtain ⟨b, off, ai, ci, rfl, q1, _, _, _, _⟩ := HR.out.at hf
    have HF := Lib.hid hf
    clear hf
    by_cases hn : f.nm = n
    · have e1 : (f.nm == n) = true := by simpa using hn
      have hres := Lib.hid (atI_hit HT.out HF.out hn)
      clear hn
      go_wp2
      go_ret
      exact ⟨by rw [hres.out]; rfl, rfl⟩
    · have e1 : (f.nm == n) = false := by simpa using hn
      have HT2 : Hid (∀ g ∈ s.fs.take (k + 1), g.nm ≠ n) := fun g hg => by
       rw [List.take_add_one, HF.out] at hg
       rcases List.mem_append.1 hg with h1 | h1
       · exact HT.out g h1
       · simp at h1; subst h1; exact hn
      clear hn
      go_wp2
      go_roundw
      case rel => exact ⟨k + 1, by omega, by go_num, trivial, HT2.out⟩
      case measure => simp [intOf]; omega
  · obtain rfl : k = m := by omega
    have hres : Hid (atI n s.fs = -1) := atI_miss fun g hg => HT.out g (by rw [List.take_of_length_le (by rw [HM.out]; omega)]; exact hg)
    go_wp2
    go_ret
    exact ⟨by rw [hres.out]; rfl, rfl⟩
theorem seen_iff (l : List FlI) (n : List UInt8) : (∃ g ∈ loadL l, g.nm = n) ↔ n ∈ l.map FlI.nm := by
 constructor
 · rintro ⟨g, hg, rfl⟩
   obtain ⟨f, hf, rfl⟩ := mem_loadL.1 hg
   exact List.mem_map_of_mem hf
 · intro h
   obtain ⟨f, hf, rfl⟩ := List.mem_map.1 h
   exact ⟨f.fl, mem_loadL.2 ⟨f, hf, rfl⟩, rfl⟩
def RLoadPost (w : World) (l : List FlI) (e : Ending) (w' : World) : Prop := Below w.heap.size w w' ∧
 ((loadE l ≠ 0 ∧ e = .returned (.tuple #[.pointer none, .int .i64 (loadE l)])) ∨ (loadE l = 0 ∧ ∃ c, e = .returned (.tuple #[.pointer (some ⟨c, 0, none⟩), .int .i64 0]) ∧ Rf w' c (fun k => w.heap.size ≤ k ∧ k < w'.heap.size) (loadS l)))
theorem RLoadPost.err {w w' : World} {l : List FlI} {x : Int} (hb : Below w.heap.size w w') (he : loadE l = x) (h0 : x ≠ 0) : RLoadPost w l (.returned (.tuple #[.pointer none, .int .i64 x])) w' := ⟨hb, .inl ⟨by rw [he]; exact h0, by rw [he]⟩⟩
set_option maxHeartbeats 8000000 in
theorem rload_any (a : Option Addr) (n cap : Nat) (l : List FlI) (T : Nat → Prop) (w : World) (h : RdFi w T a n cap l) (ht : totI l ≤ 4194304) (hn : n ≤ 100000) :
 Calls Tryz.prog 7 #[.slice a n cap] w (RLoadPost w l) := by
 have HR := Lib.hid h
 have HN := Lib.hid h.1
 have HTT := Lib.hid ht
 clear h ht
 go_enter Tryz.func7, Tryz.ntmps7
 go_wp2_with fail
 have hst := Rf.start w
 have hbw : Below w.heap.size w (w.alloc (.cells #[.slice none 0 0, .bool false, .int .i64 0, .int .i64 0] 45)) := (Below.refl _ _).alloc (Nat.le_refl _) _
 obtain ⟨w1, hw1⟩ : ∃ w1, w.alloc (.cells #[.slice none 0 0, .bool false, .int .i64 0, .int .i64 0] 45) = w1 := ⟨_, rfl⟩
 rw [hw1] at hst hbw ⊢
 obtain ⟨c, hc⟩ : ∃ c, w.heap.size = c := ⟨_, rfl⟩
 have HST : Hid (Rf w1 c (fun q => q = c) ⟨loadL (l.take 0), 0, 0, false⟩) := by rw [hc] at hst; exact hst
 have HCW : Hid (w.heap.size ≤ c) := Nat.le_of_eq hc
 have HBW := Lib.hid hbw
 rw [hc]
 clear hst hbw hw1 hc
 go_loopw [5, 6] (fun i _ wx => ∃ (k : Nat) (S : Nat → Prop), k ≤ n ∧ i = .int .i64 (k : Nat) ∧ Hid (ChkAt l k) ∧ Hid (Rf wx c S ⟨loadL (l.take k), 0, 0, false⟩) ∧ Hid (∀ q, S q → w.heap.size ≤ q) ∧ Hid (Below w.heap.size w wx)) (fun i _ _ => n - (intOf i).toNat)
 case atStart => exact ⟨0, _, Nat.zero_le _, rfl, ChkAt.start l, HST.out, fun q e => by rw [e]; exact HCW.out, HBW.out⟩
 case round =>
  clear HST HBW
  obtain ⟨k, S, hk, rfl, HC, HS, HSG, HB⟩ := hrel
  by_cases hlt : k < n
  · obtain ⟨f, hf⟩ : ∃ f, l[k]? = some f := ⟨_, List.getElem?_eq_getElem (by have := HN.out; omega)⟩
    obtain ⟨b, off, ai, ci, rfl, hrd, q0, q1, q2⟩ := (HR.out.below HB.out).at hf
    obtain ⟨hwf, h8, hbl⟩ := hrd
    obtain ⟨W, hW, hbw, hsz, g0, g1, g2⟩ := fiAt wr f ai ci
    have hW' : wr.alloc (.cells #[.string (bs f.nm), .slice ai f.dt.length ci, .int .i64 f.sf] 26) = W := hW.symm
    have hlen : (loadL (l.take k)).length ≤ 100000 := by rw [len_loadL, List.length_take]; omega
    have HLEN := Lib.hid hlen
    have HF := Lib.hid hf
    have HSW := Lib.hid (HS.out.below hbw)
    have HBW := Lib.hid (HB.out.trans (hbw.mono HB.out.size))
    have HNM := Lib.hid (rname_any f.nm hwf.1 W)
    have HAT := Lib.hid (at_many c S ⟨loadL (l.take k), 0, 0, false⟩ f.nm hlen W HSW.out)
    have H8 := Lib.hid (h8.below hbw)
    have hwf2 := hwf.2
    have hdl : f.dt.length ≤ 4194304 := by
     have h1 := totI_next hf
     have h2 := totI_take_le l (k + 1)
     have h3 := HTT.out
     omega
    clear hf hW hbw hsz h8 hbl hwf HS HB hlen
    cases hnm : nameOk f.nm with
    | false =>
     have hres := Lib.hid (HC.out.stop HF.out (e := 10) (by unfold chkE; rw [if_pos hnm]) (by decide))
     rw [hnm] at HNM
     clear hnm
     go_wp2_with (go_at_call 23; ((with_reducible refine (HNM.out).mono ?_); rintro e w2 ⟨rfl, rfl⟩))
     go_ret2
     exact RLoadPost.err HBW.out hres.out (by decide)
    | true =>
     rw [hnm] at HNM
     have HOKN := Lib.hid hnm
     clear hnm
     rcases atI_get (n := f.nm) (l := loadL (l.take k)) with ⟨x, j, hg, hx, hj, hat⟩ | ⟨hg, hat⟩
     · have hat' : atI f.nm (⟨loadL (l.take k), 0, 0, false⟩ : DS).fs = (j : Nat) := hat
       rw [hat'] at HAT
       have hres := Lib.hid (HC.out.stop HF.out (e := 9) (by unfold chkE; rw [if_neg (by rw [HOKN.out]; decide), if_pos ((seen_iff _ _).1 ⟨x, (getF_some hg).1, (getF_some hg).2⟩)]) (by decide))
       clear hg hx hj hat hat'
       go_wp2_with (first | (go_at_call 23; ((with_reducible refine (HNM.out).mono ?_); rintro e w2 ⟨rfl, rfl⟩)) | (go_at_call 24; ((with_reducible refine (HAT.out).mono ?_); rintro e w2 ⟨rfl, rfl⟩)))
       go_ret2
       exact RLoadPost.err HBW.out hres.out (by decide)
     · have hat' : atI f.nm (⟨loadL (l.take k), 0, 0, false⟩ : DS).fs = -1 := hat
       rw [hat'] at HAT
       have HNF : Hid (∀ g ∈ loadL (l.take k), g.nm ≠ f.nm) := getF_none hg
       have HNS : Hid (f.nm ∉ (l.take k).map FlI.nm) := fun hm => by
        obtain ⟨g, hg1, hg2⟩ := (seen_iff _ _).2 hm
        exact HNF.out g hg1 hg2
       clear hg hat hat'
       by_cases hbad : f.sf < 0 ∨ (f.dt.length : Int) < f.sf
       · have hres := Lib.hid (HC.out.stop HF.out (e := 1) (by unfold chkE; rw [if_neg (by rw [HOKN.out]; decide), if_neg HNS.out, if_pos hbad]) (by decide))
         by_cases hneg : f.sf < 0
         case' pos => have d1 : decide (f.sf < 0) = true := by simpa using hneg
         case' neg =>
          have d1 : decide (f.sf < 0) = false := by simpa using hneg
          have hgt : (f.dt.length : Int) < f.sf := hbad.resolve_left hneg
          have d2 : decide ((f.dt.length : Int) < f.sf) = true := by simpa using hgt
         all_goals
          clear hbad
          go_wp2_with (first | (go_at_call 23; ((with_reducible refine (HNM.out).mono ?_); rintro e w2 ⟨rfl, rfl⟩)) | (go_at_call 24; ((with_reducible refine (HAT.out).mono ?_); rintro e w2 ⟨rfl, rfl⟩)))
          go_ret2
          exact RLoadPost.err HBW.out hres.out (by decide)
       · obtain ⟨sf, hsf⟩ : ∃ sf : Nat, f.sf = (sf : Int) := ⟨f.sf.toNat, by omega⟩
         have hs1 : sf ≤ f.dt.length := by omega
         have hfl : f.fl = ⟨f.nm, f.dt, sf⟩ := by unfold FlI.fl; rw [hsf]; rfl
         have HC2 := Lib.hid (HC.out.next HF.out HOKN.out HNS.out (by omega) (by omega))
         have HNX := Lib.hid (loadL_next HF.out)
         rw [hfl] at HNX
         rw [hsf] at g2
         have d1 : decide ((sf : Int) < 0) = false := by simp
         have d2 : decide (f.dt.length < sf) = false := by simp; omega
         clear hbad hfl hsf hwf2
         go_wp2_with (first | (go_at_call 23; ((with_reducible refine (HNM.out).mono ?_); rintro e w2 ⟨rfl, rfl⟩)) | (go_at_call 24; ((with_reducible refine (HAT.out).mono ?_); rintro e w2 ⟨rfl, rfl⟩)))
         clear q0 q1 q2 d1 d2 HAT HNM
         refine wp_region_ht 9 (fun W => W.cell? ⟨wr.heap.size, 0, none⟩ = some (.string (bs f.nm)) ∧ W.cell? ⟨wr.heap.size, 1, none⟩ = some (.slice ai f.dt.length ci) ∧ W.cell? ⟨wr.heap.size, 2, none⟩ = some (.int .i64 (sf : Nat))) (by kernel_rfl) (by kernel_rfl) ?_ (fun hHeld => ?_)
         · exact ⟨g0, g1, g2⟩
         try simp only [Act.put, List.setIfInBounds_toArray, List.set_cons_zero, List.set_cons_succ]
         refine wpHT_takeD (i := 0) (d := 39) (v := ?_) (by kernel_rfl) rfl rfl (by decide) (by kernel_rfl) (by kernel_rfl) (fun _ _ _ h => h) (Or.inl ⟨by kernel_rfl, ?_⟩) (by assumption) ?_
         rotate_left
         · intro w hSw; (try dsimp only at hSw); go_simp; (try with_reducible rfl)
         try simp only [Act.put, List.setIfInBounds_toArray, List.set_cons_zero, List.set_cons_succ]
         refine wpHT_takeD (i := 1) (d := 40) (v := ?_) (by kernel_rfl) rfl rfl (by decide) (by kernel_rfl) (by kernel_rfl) (fun _ _ _ h => h) (Or.inl ⟨by kernel_rfl, ?_⟩) (by assumption) ?_
         rotate_left
         · intro w hSw; (try dsimp only at hSw); go_simp; (try with_reducible rfl)
         try simp only [Act.put, List.setIfInBounds_toArray, List.set_cons_zero, List.set_cons_succ]
         refine wpHT_takeD (i := 2) (d := 41) (v := ?_) (by kernel_rfl) rfl rfl (by decide) (by kernel_rfl) (by kernel_rfl) (fun _ _ _ h => h) (Or.inl ⟨by kernel_rfl, ?_⟩) (by assumption) ?_
         rotate_left
         · intro w hSw; (try dsimp only at hSw); go_simp; (try with_reducible rfl)
         try simp only [Act.put, List.setIfInBounds_toArray, List.set_cons_zero, List.set_cons_succ]
         refine wpHT_takeD (i := 3) (d := 42) (v := ?_) (by kernel_rfl) rfl rfl (by decide) (by kernel_rfl) (by kernel_rfl) (fun _ _ _ h => h) (Or.inl ⟨by kernel_rfl, ?_⟩) (by assumption) ?_
         rotate_left
         · intro w hSw; (try dsimp only at hSw); go_simp; (try with_reducible rfl)
         try simp only [Act.put, List.setIfInBounds_toArray, List.set_cons_zero, List.set_cons_succ]
         refine wpHT_takeD (i := 4) (d := 43) (v := ?_) (by kernel_rfl) rfl rfl (by decide) (by kernel_rfl) (by kernel_rfl) (fun _ _ _ h => h) (Or.inl ⟨by kernel_rfl, ?_⟩) (by assumption) ?_
         rotate_left
         · intro w hSw; (try dsimp only at hSw); go_simp; (try with_reducible rfl)
         try simp only [Act.put, List.setIfInBounds_toArray, List.set_cons_zero, List.set_cons_succ]
         refine wpHT_takeD (i := 6) (d := 45) (v := ?_) (by kernel_rfl) rfl rfl (by decide) (by kernel_rfl) (by kernel_rfl) (fun _ _ _ h => h) (Or.inl ⟨by kernel_rfl, ?_⟩) (by assumption) ?_
         rotate_left
         · intro w hSw; (try dsimp only at hSw); go_simp; (try with_reducible rfl)
         try simp only [Act.put, List.setIfInBounds_toArray, List.set_cons_zero, List.set_cons_succ]
         refine wpHT_takeD (i := 7) (d := 46) (v := ?_) (by kernel_rfl) rfl rfl (by decide) (by kernel_rfl) (by kernel_rfl) (fun _ _ _ h => h) (Or.inl ⟨by kernel_rfl, ?_⟩) (by assumption) ?_
         rotate_left
         · intro w hSw; (try dsimp only at hSw); go_simp; (try with_reducible rfl)
         try simp only [Act.put, List.setIfInBounds_toArray, List.set_cons_zero, List.set_cons_succ]
         refine wpHT_one (i := 5) (by kernel_rfl) rfl (by decide) (fun K hK => ?_)
         go_simp
         go_at_call 26
         refine (copyBytes_any _ _ _ f.dt _ (H8.out.below ((Below.refl _ W).drew)) (by omega)).mono ?_
         rintro e w2 ⟨v2, rfl, ho, hb⟩
         have hb2 : Below W.heap.size W w2 := ((Below.refl _ W).drew).trans hb
         have ho2 : Own8 w2 W.heap.size 5 v2 f.dt := ho
         obtain ⟨a2, cap2, rfl, hr2⟩ := ho2.rd
         have g0 := cell_below g0 hb2
         have g1 := cell_below g1 hb2
         have g2 := cell_below g2 hb2
         have HO2 := Lib.hid ho2
         have HB2 := Lib.hid hb2
         have HR2 := Lib.hid hr2
         clear ho hb ho2 hb2 hr2
         refine hK.out _ _ ?_ (fun hHeld => ?_)
         · exact ⟨g0, g1, g2⟩
         clear hK K
         try simp only [Act.put, List.setIfInBounds_toArray, List.set_cons_zero, List.set_cons_succ]
         refine wpHT_takeD (i := 8) (d := 47) (v := ?_) (by kernel_rfl) rfl rfl (by decide) (by kernel_rfl) (by kernel_rfl) (fun _ _ _ h => h) (Or.inl ⟨by kernel_rfl, ?_⟩) (by assumption) ?_
         rotate_left
         · intro w hSw; (try dsimp only at hSw); go_simp; (try with_reducible rfl)
         try simp only [Act.put, List.setIfInBounds_toArray, List.set_cons_zero, List.set_cons_succ]
         refine wpHT_done (by kernel_rfl) ?_
         simp only [List.drop_succ_cons, List.drop_zero]
         clear hHeld
         have hG : Rf w2 c (Sx S W w2) ⟨loadL (l.take k), 0, 0, false⟩ := (HSW.out.below HB2.out).grow (fun q hq => .inl hq) (fun q hq => hq.elim (fun h => Nat.lt_of_lt_of_le (HSW.out.lt q h) HB2.out.size) (fun h => h.2))
         have HP := Lib.hid (put_any c (Sx S W w2) ⟨loadL (l.take k), 0, 0, false⟩ ⟨f.nm, f.dt, sf⟩ a2 cap2 HLEN.out HNF.out w2 hG HR2.out (fun _ q hq => by
          have h1 := World.ownsRow.lt HO2.out q (by rw [ownBlock_sl]; exact hq)
          have h2 := HSW.out.lt c HSW.out.in
          exact ⟨.inr h1, by omega⟩))
         clear hG g0 g1 g2
         go_wp2_with fail
         go_at_call 25
         refine (HP.out).mono ?_
         rintro e w3 ⟨rfl, hr3, hf3⟩
         have HR3 : Hid (Rf w3 c (Sx (Sx S W w2) w2 w3) ⟨loadL (l.take (k + 1)), 0, 0, false⟩) := by show Rf _ _ _ _; rw [HNX.out]; exact hr3
         have hbw2 : Below w.heap.size w w2 := HBW.out.trans (HB2.out.mono HBW.out.size)
         have HB3 : Hid (Below w.heap.size w w3) := hbw2.trans (hf3.below hbw2.size (fun q hq e => by have := HSG.out c HSW.out.in; omega))
         have HSG3 : Hid (∀ q, Sx (Sx S W w2) w2 w3 q → w.heap.size ≤ q) := fun q hq => by
          have h1 := HBW.out.size
          have h2 := hbw2.size
          rcases hq with (hq | hq) | hq
          · exact HSG.out q hq
          · omega
          · omega
         clear hr3 hf3 hbw2 HP
         go_wp2_with fail
         go_roundw
         case rel => exact ⟨k + 1, _, by omega, by go_num, HC2.out, HR3.out, HSG3.out, HB3.out⟩
         case measure => simp [intOf]; omega
  · obtain rfl : k = n := by omega
    have hCk : ChkAt l l.length := by have := HC.out; rw [HN.out] at this; exact this
    by_cases h64 : 64 < k
    · have hres := Lib.hid (hCk.many (by rw [← HN.out]; exact h64))
      clear hCk
      go_wp2_with fail
      go_ret2
      exact RLoadPost.err HB.out hres.out (by decide)
    · have hres := Lib.hid (hCk.fine (by rw [← HN.out]; omega))
      have hRS : Rf wr c S (loadS l) := by have := HS.out; rw [List.take_of_length_le (by rw [HN.out]; exact Nat.le_refl _)] at this; exact this
      have htl : tot (loadS l).fs = totI l := tot_loadL l
      have hsz := rsize_any c S (loadS l) (by show (loadL l).length ≤ 64; rw [len_loadL, ← HN.out]; omega) (by rw [htl]; exact HTT.out) wr hRS
      rw [htl] at hsz
      have HSZ := Lib.hid hsz
      have HRS := Lib.hid hRS
      obtain ⟨U, hU⟩ : ∃ U, totI l = U := ⟨_, rfl⟩
      rw [hU] at HSZ HTT
      have hUb := HTT.out
      have dU : decide (4194304 < U) = false := by simp; omega
      clear hCk hRS htl hsz hU
      go_wp2_with (go_at_call 27; ((with_reducible refine (HSZ.out).mono ?_); rintro e w2 ⟨rfl, rfl⟩))
      go_ret2
      exact ⟨HB.out, .inr ⟨hres.out, c, rfl, HRS.out.grow (fun q hq => ⟨HSG.out q hq, HRS.out.lt q hq⟩) (fun q hq => hq.2)⟩⟩
end Go.Proofs.YtjjcilinghgphaaGreat

/-! ### Files that are handed in: opened, compared, written over. -/
namespace Go.Proofs.YtjjcilinghgphaaGreat
open Go.RowKit Go.Maps Go.Sort
set_option maxRecDepth 100000
attribute [local go_sem] bs_size bs_toList

def cellI (f : FlI) (v : Value) : List Value := [.string (bs f.nm), v, .int .i64 f.sf]
def flatI : List FlI → List Value → List Value
 | f :: r, v :: vs => cellI f v ++ flatI r vs
 | _, _ => []
theorem flatI_snoc : ∀ (l : List FlI) (vs : List Value) (f : FlI) (u : Value), vs.length = l.length → flatI (l ++ [f]) (vs ++ [u]) = flatI l vs ++ cellI f u
 | [], [], f, u, _ => by simp [flatI]
 | g :: r, v :: vs, f, u, h => by
  show cellI g v ++ flatI (r ++ [f]) (vs ++ [u]) = (cellI g v ++ flatI r vs) ++ cellI f u
  rw [flatI_snoc r vs f u (by simpa using h), List.append_assoc]
 | [], _ :: _, _, _, h => by simp at h
 | _ :: _, [], _, _, h => by simp at h
theorem flatI_length : ∀ (l : List FlI) (vs : List Value), vs.length = l.length → (flatI l vs).length = l.length * 3
 | [], [], _ => rfl
 | g :: r, v :: vs, h => by
  show (cellI g v ++ flatI r vs).length = _
  rw [List.length_append, flatI_length r vs (by simpa using h)]
  simp [cellI]; omega
 | [], _ :: _, h => by simp at h
 | _ :: _, [], h => by simp at h
theorem flatI_get : ∀ (l : List FlI) (vs : List Value) (i : Nat) (f : FlI) (u : Value), l[i]? = some f → vs[i]? = some u → (flatI l vs)[3 * i]? = some (.string (bs f.nm)) ∧ (flatI l vs)[3 * i + 1]? = some u ∧ (flatI l vs)[3 * i + 2]? = some (.int .i64 f.sf)
 | [], _, i, _, _, h, _ => by simp at h
 | _ :: _, [], i, _, _, _, h => by simp at h
 | g :: r, v :: vs, 0, f, u, h1, h2 => by
  simp at h1 h2
  subst h1 h2
  exact ⟨rfl, rfl, rfl⟩
 | g :: r, v :: vs, i + 1, f, u, h1, h2 => by
  have ih := flatI_get r vs i f u (by simpa using h1) (by simpa using h2)
  show (cellI g v ++ flatI r vs)[3 * (i + 1)]? = _ ∧ (cellI g v ++ flatI r vs)[3 * (i + 1) + 1]? = _ ∧ (cellI g v ++ flatI r vs)[3 * (i + 1) + 2]? = _
  have hl : (cellI g v).length = 3 := rfl
  rw [List.getElem?_append_right (by omega), List.getElem?_append_right (by omega), List.getElem?_append_right (by omega), hl]
  rw [show 3 * (i + 1) - 3 = 3 * i by omega, show 3 * (i + 1) + 1 - 3 = 3 * i + 1 by omega, show 3 * (i + 1) + 2 - 3 = 3 * i + 2 by omega]
  exact ih
theorem flatI_one : ∀ (l : List FlI) (vs : List Value), (∀ v ∈ vs, v.oneCell' = true) → ∀ u ∈ flatI l vs, u.oneCell' = true
 | [], _, _, u, h => by simp [flatI] at h
 | _ :: _, [], _, u, h => by simp [flatI] at h
 | g :: r, v :: vs, hv, u, h => by
  have h' : u ∈ cellI g v ++ flatI r vs := h
  rcases List.mem_append.1 h' with h1 | h1
  · simp [cellI] at h1
    rcases h1 with rfl | rfl | rfl
    · rfl
    · exact hv _ (by simp)
    · rfl
  · exact flatI_one r vs (fun x hx => hv x (by simp [hx])) u h1
/-- A list of files of the call's own: the row, and each file's bytes. -/
def OwnFi (w : World) (base : Nat) (v : Value) (vs : List Value) (l : List FlI) : Prop :=
 vs.length = l.length ∧ w.ownsRow base 26 3 v l.length (flatI l vs) ∧ ∀ (i : Nat) (f : FlI) (u : Value), l[i]? = some f → vs[i]? = some u → Own8 w base 5 u f.dt
theorem OwnFi.nil (w : World) (base : Nat) : OwnFi w base (.slice none 0 0) [] [] := ⟨rfl, World.ownsRow_nil _ _ _ _, fun i f u h => by simp at h⟩
/-- One file more: its bytes just made, then the row. -/
theorem OwnFi.snoc {w w1 w2 : World} {base : Nat} {v v' : Value} {vs : List Value} {l : List FlI} (h : OwnFi w base v vs l) (f : FlI) (u : Value) (h1 : Below w.heap.size w w1) (hu : Own8 w1 base 5 u f.dt)
 (hown : w2.ownsRow base 26 3 v' (l.length + 1) (flatI l vs ++ cellI f u)) (hg : w1.grownBy w2 v.ownBlock) : OwnFi w2 base v' (vs ++ [u]) (l ++ [f]) := by
 obtain ⟨hl, hr, hd⟩ := h
 refine ⟨by simp [hl], by rw [flatI_snoc _ _ _ _ hl, List.length_append]; exact hown, fun i g x hg' hx => ?_⟩
 have old : ∀ {g : FlI} {x : Value}, Own8 w1 base 5 x g.dt → Own8 w2 base 5 x g.dt := fun {g x} ho => by
  refine ownsRow_keep ho fun k hk => hg.block k (World.ownsRow.lt ho k hk).2 fun e => ?_
  obtain ⟨cur, hc⟩ := ownsRow_type ho hk
  obtain ⟨cur', hc'⟩ := ownsRow_type hr e.symm
  have hlt := (Array.getElem?_eq_some_iff.1 hc').1
  have := (h1.block k hlt).trans hc'
  rw [this] at hc
  simp at hc
 rcases Nat.lt_or_ge i l.length with hi | hi
 · rw [List.getElem?_append_left hi] at hg'
   rw [List.getElem?_append_left (by omega)] at hx
   exact old ((hd i g x hg' hx).below (Nat.le_refl _) h1)
 · have : i = l.length := by
    have h2 := (List.getElem?_eq_some_iff.1 hg').1
    simp at h2; omega
   subst this
   rw [List.getElem?_append_right (Nat.le_refl _)] at hg'
   rw [List.getElem?_append_right (by omega)] at hx
   simp [hl] at hg' hx
   subst hg' hx
   exact old hu
/-- Files that the call made, that may be written over: row and bytes. -/
def LI (w : World) (T : Nat → Prop) (a : Option Addr) (l : List FlI) : Prop :=
 ∀ (j : Nat) (f : FlI), l[j]? = some f → ∃ b aj cj, a = some ⟨b, 0, none⟩ ∧ T b ∧ w.cell? ⟨b, j * 3 + 1, none⟩ = some (.slice aj f.dt.length cj) ∧ WrB w aj f.dt.length ∧ BlkIn aj f.dt.length (fun q => T q ∧ q ≠ b)
theorem LI.of_own {w : World} {base : Nat} {a : Option Addr} {n cap : Nat} {vs : List Value} {l : List FlI} (h : OwnFi w base (.slice a n cap) vs l) : LI w (fun q => base ≤ q ∧ q < w.heap.size) a l := by
 obtain ⟨hl, hr, hd⟩ := h
 intro j f hf
 obtain ⟨u, hu⟩ : ∃ u, vs[j]? = some u := ⟨_, List.getElem?_eq_getElem (by have := (List.getElem?_eq_some_iff.1 hf).1; omega)⟩
 have ho := hd j f u hf hu
 obtain ⟨aj, cj, rfl, h8⟩ := ho.rd
 obtain ⟨g1, g2, g3⟩ := flatI_get l vs j f _ hf hu
 have hr' := hr
 rcases hr.2 with ⟨h1, h2⟩ | ⟨g, cap', cur, h1, hb, hg, hnc, hcm, hcs, ht⟩
 · have := (List.getElem?_eq_some_iff.1 hf).1; omega
 · simp at h1
   obtain ⟨rfl, _, rfl⟩ := h1
   refine ⟨g, aj, cj, rfl, ⟨hb, (Array.getElem?_eq_some_iff.1 hg).1⟩, ?_, WrB.of_own ho rfl, fun h0 q hq => ?_⟩
   · rw [cell_of_row w g _ _ _ _ hg, Nat.mul_comm]
     rw [← ht, List.getElem?_take] at g2
     split at g2
     · simpa using g2
     · cases g2
   · have hq' : (Value.slice aj f.dt.length cj).ownBlock = some q := by rw [ownBlock_sl]; exact hq
     refine ⟨World.ownsRow.lt ho q hq', fun e => ?_⟩
     obtain ⟨cur', hc'⟩ := ownsRow_type ho hq'
     rw [e, hg] at hc'
     simp at hc'
theorem LI.keep {w w' : World} {T : Nat → Prop} {a : Option Addr} {l : List FlI} (h : LI w T a l) (hb : Below w.heap.size w w') : LI w' T a l := fun j f hf => by
 obtain ⟨b, aj, cj, h1, h2, h3, h4, h5⟩ := h j f hf
 refine ⟨b, aj, cj, h1, h2, cell_below h3 hb, ?_, h5⟩
 rcases h4 with h4 | ⟨r, cur, rfl, hg, hc⟩
 · exact .inl h4
 · exact .inr ⟨r, cur, rfl, (hb.block r (Array.getElem?_eq_some_iff.1 hg).1).trans hg, hc⟩
theorem LI.set {w : World} {T : Nat → Prop} {a : Option Addr} {l : List FlI} (h : LI w T a l) {r : Nat} (k : Nat) (v : Value) (hr : ∀ b, blk a = some b → r ≠ b) : LI (w.setCell ⟨r, k, none⟩ v) T a l := fun j f hf => by
 obtain ⟨b, aj, cj, rfl, h2, h3, h4, h5⟩ := h j f hf
 refine ⟨b, aj, cj, rfl, h2, ?_, h4.set r k v, h5⟩
 have fr : Fr (fun q => q = r) w (w.setCell ⟨r, k, none⟩ v) := (Fr.refl (fun q => q = r) w).setCell (fun _ => rfl) _
 exact (fr.cell (p := ⟨b, j * 3 + 1, none⟩) (World.block_lt_of_cell? _ _ h3) (fun e => hr b rfl e.symm)).trans h3

theorem OwnFi.rd {w : World} {base : Nat} {v : Value} {vs : List Value} {l : List FlI} (h : OwnFi w base v vs l) (hwf : ∀ f ∈ l, FiWf f) : ∃ a cap, v = .slice a l.length cap ∧ RdFi w (fun b => base ≤ b ∧ b < w.heap.size) a l.length cap l := by
 obtain ⟨h1, h2, h3⟩ := h
 obtain ⟨a, cap, rfl, hr⟩ := Rd.of_own h2
 refine ⟨a, cap, rfl, rfl, fun _ b hb => World.ownsRow.lt h2 b (by rw [ownBlock_sl]; exact hb), _, hr, fun i f hf => ?_⟩
 obtain ⟨u, hu⟩ : ∃ u, vs[i]? = some u := ⟨_, List.getElem?_eq_getElem (by have := (List.getElem?_eq_some_iff.1 hf).1; omega)⟩
 have ho := h3 i f u hf hu
 obtain ⟨ai, ci, rfl, hr8⟩ := ho.rd
 obtain ⟨g1, g2, g3⟩ := flatI_get l vs i f _ hf hu
 refine ⟨ai, ci, fun j x hx => ?_, hwf f (List.mem_of_getElem? hf), hr8, fun _ b hb => World.ownsRow.lt ho b (by rw [ownBlock_sl]; exact hb)⟩
 rw [Nat.mul_comm i 3]
 match j, hx with
 | 0, hx => cases hx; exact g1
 | 1, hx => cases hx; exact g2
 | 2, hx => cases hx; exact g3
 | j + 3, hx => simp [fiCells] at hx
theorem rdFi_open {H : Type} {enc : TypeId × Value → H} {w : World} {base : Nat} {sp : Nat → Bool} {held : Bool} {fuel : Nat} {a : Option Addr} {len cap : Nat} {x : DataW H × List MemPlace}
 (h : DataW.trod enc Tryz.prog w base sp held fuel 22 (Value.slice a len cap).cells.toList = some x) : ∃ l, RdFi w (fun b => b < w.heap.size) a len cap l := by
 obtain ⟨xs, hr, m, hel⟩ := rd_open (size := 3) Tryz.underlying22 (by kernel_rfl) (by decide) h
 obtain ⟨os, h1, h2⟩ := choose_list (P := fun i (f : FlI) => ∃ ai ci, (∀ (j : Nat) (u : Value), (fiCells f ai ci)[j]? = some u → xs[i * 3 + j]? = some u) ∧ FiRd w (fun b => b < w.heap.size) f ai ci) len fun i hi => by
  obtain ⟨y, hy⟩ := hel i hi
  obtain ⟨_, n, hf⟩ := field_of Tryz.underlying26 hy
  obtain ⟨y0, h0⟩ := hf 0 _ rfl
  obtain ⟨y1, h1⟩ := hf 1 _ rfl
  obtain ⟨y2, h2⟩ := hf 2 _ rfl
  obtain ⟨nm, e0, hnm⟩ := str_open Tryz.underlying9 h0
  obtain ⟨ab, lb, cb, e1⟩ := slice_form Tryz.underlying24 h1
  obtain ⟨sf, e2, hsf⟩ := int_open Tryz.underlying3 h2
  rw [e1] at h1
  obtain ⟨b, hb⟩ := rd8_open (a := ab) (len := lb) (cap := cb) Tryz.underlying24 Tryz.underlying5 (by kernel_rfl) h1
  obtain rfl : lb = b.length := hb.1
  have c : ∀ {j : Nat} {v : Value}, j < 3 → (((xs.drop (i * 3)).take 3).drop j).take 1 = [v] → xs[i * 3 + j]? = some v := fun {j v} hj hv => by
   have := one_get hv
   rw [List.getElem?_take, if_pos hj, List.getElem?_drop] at this
   exact this
  refine ⟨⟨nm, b, sf⟩, ab, cb, fun j u hj => ?_, ⟨hnm, hsf.1, hsf.2⟩, hb, hb.2.blkIn (by decide)⟩
  match j, hj with
  | 0, hj => cases hj; exact c (by decide) e0
  | 1, hj => cases hj; exact c (by decide) e1
  | 2, hj => cases hj; exact c (by decide) e2
  | j + 3, hj => simp [fiCells] at hj
 exact ⟨os, h1.symm, hr.blkIn (by decide), xs, hr, h2⟩
set_option maxHeartbeats 1000000 in
/-- Two equal lists of files. -/
theorem filesI_same (a a' : Option Addr) (n cap cap' : Nat) (l : List FlI) (T T' : Nat → Prop) (w : World) (h : RdFi w T a n cap l) (h' : RdFi w T' a' n cap' l) :
 Calls Tryz.prog 69 #[.slice a n cap, .slice a' n cap'] w fun e w' => e = .returned (.bool true) ∧ ∃ m, w' = w.drewN m := by
 have H1 := Lib.hid h
 have H2 := Lib.hid h'
 have E1 := Lib.hid h.1
 have hm1 : n ≤ 9223372036854775807 := by obtain ⟨_, _, vs, hr, _⟩ := h; exact Nat.le_trans hr.1 hr.2.1
 clear h h'
 go_enter Tryz.func69, Tryz.ntmps69
 go_wp2_with fail
 go_loopw [5] (fun i wr => ∃ k : Nat, k ≤ n ∧ i = .int .i64 k ∧ Hid (∃ m, wr = w.drewN m)) (fun i _ => n - (intOf i).toNat)
 case atStart => exact ⟨0, Nat.zero_le _, rfl, 0, rfl⟩
 case round =>
  obtain ⟨k, hk, rfl, HB⟩ := hrel
  by_cases hlt : k < n
  · obtain ⟨f, hf⟩ : ∃ f, l[k]? = some f := ⟨_, List.getElem?_eq_getElem (by have := E1.out; omega)⟩
    obtain ⟨b, off, ai, ci, rfl, hr, c1, c2, c3⟩ := (H1.out.keep (draws_fr HB.out) (fun _ _ h => h)).at hf
    obtain ⟨b', off', ai', ci', rfl, hr', c1', c2', c3'⟩ := (H2.out.keep (draws_fr HB.out) (fun _ _ h => h)).at hf
    have k1 : ∀ i, (convert 24 9 (.slice ai f.dt.length ci)).run Tryz.prog (wr.drewN i) = .ok (.string (bs f.dt)) (wr.drewN i) := fun i => run_toStr (P := Tryz.prog) (hr.2.1.keep ((Fr.refl (fun _ => False) wr).drewN i) (fun _ _ h => h)) 24 5 9 Tryz.underlying24 Tryz.underlying5 Tryz.underlying9
    have k2 : ∀ i, (convert 24 9 (.slice ai' f.dt.length ci')).run Tryz.prog (wr.drewN i) = .ok (.string (bs f.dt)) (wr.drewN i) := fun i => run_toStr (P := Tryz.prog) (hr'.2.1.keep ((Fr.refl (fun _ => False) wr).drewN i) (fun _ _ h => h)) 24 5 9 Tryz.underlying24 Tryz.underlying5 Tryz.underlying9
    clear hf hr hr'
    go_wp2_with fail
    go_quiet (fail)
    go_wp2_with fail
    go_roundw
    case rel => exact ⟨k + 1, by omega, by go_num, draws_next HB.out _⟩
    case measure => simp [intOf]; omega
  · obtain rfl : k = n := by omega
    go_wp2_with fail
    go_ret
    exact ⟨rfl, HB.out⟩
/-! ### few and small -/
def wgI (f : FlI) : Nat := min f.nm.length 20001 + min f.dt.length 20001
def wsI (l : List FlI) : Nat := (l.map wgI).sum
theorem wsI_le (l : List FlI) : wsI l ≤ l.length * 40002 := by
 induction l with
 | nil => simp [wsI]
 | cons o r ih => have : wgI o ≤ 40002 := (by unfold wgI; omega); simp only [wsI, List.map_cons, List.sum_cons, List.length_cons] at ih ⊢; omega
theorem wsI_snoc {l : List FlI} {k : Nat} {f : FlI} (h : l[k]? = some f) : wsI (l.take (k + 1)) = wsI (l.take k) + wgI f := by
 rw [List.take_add_one, h]; simp [wsI]
theorem wsI_tot {l : List FlI} (h : wsI l ≤ 20000) : totI l ≤ 20000 := by
 suffices h' : ∀ l : List FlI, wsI l ≤ 20000 → totI l ≤ wsI l from Nat.le_trans (h' l h) h
 intro l
 induction l with
 | nil => simp [totI]
 | cons f r ih =>
  intro hw
  simp only [wsI, totI, List.map_cons, List.sum_cons] at hw ih ⊢
  have := ih (by omega)
  have e : wgI f = min f.nm.length 20001 + min f.dt.length 20001 := rfl
  omega
end Go.Proofs.YtjjcilinghgphaaGreat
