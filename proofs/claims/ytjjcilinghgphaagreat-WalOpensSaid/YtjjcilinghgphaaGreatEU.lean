/-
 The walk of DiskPlays.
 The disk's Copy. Written by a program (e25gen.py).
-/
import Derived.Test.YtjjcilinghgphaaGreatE41
import Derived.Test.YtjjcilinghgphaaGreatEY
import Derived.Maps.RangeWalk
/-! ### The walk of DiskPlays. -/
namespace Go.Proofs.YtjjcilinghgphaaGreat
open Go.RowKit Go.Maps Go.Sort
set_option maxRecDepth 100000
attribute [local go_sem] bs_size bs_toList

/-- The disk of a law, beside what is done elsewhere. -/
theorem LS.beside {B : Int} {W w w' : World} {d : Nat} {S S' : Nat → Prop} {s : DS} (h : LS B W w d S s) (hf : Fr S' w w') (hn : ∀ k, S k → ¬ S' k) (hl : ∀ k, S' k → W.heap.size ≤ k) : LS B W w' d S s :=
 ⟨h.1.keep hf hn, h.2.1, h.2.2.trans (hf.below h.2.2.size fun k hk hs => by have := hl k hs; omega)⟩
end Go.Proofs.YtjjcilinghgphaaGreat

/-! ### The disk's Copy. Written by a program (e25gen.py). -/
namespace Go.Proofs.YtjjcilinghgphaaGreat
open Go.RowKit Go.Maps Go.Sort
set_option maxRecDepth 100000
attribute [local go_sem] bs_size bs_toList

theorem filt_step {l : List Fl} (hs : Srt l) {f : Fl} (hf : f ∈ l) {left : List UInt8 → Bool} (hl : left f.nm = true) :
 insF f (l.filter fun g => !left g.nm) = l.filter fun g => !(left g.nm && !(g.nm == f.nm)) := by
 have h1 : ∀ g ∈ l.filter (fun g => !left g.nm), g.nm ≠ f.nm := fun g hg e => by
  have := (List.mem_filter.1 hg).2
  rw [e, hl] at this; cases this
 have s1 : Srt (insF f (l.filter fun g => !left g.nm)) := srt_ins (hs.filter _) h1
 have s2 : Srt (l.filter fun g => !(left g.nm && !(g.nm == f.nm))) := hs.filter _
 have nd : ∀ {x : List Fl}, Srt x → x.Nodup := fun {x} hx => (srt_nm hx).imp fun {a b} hab e => hab (by rw [e])
 refine srt_eq ((List.perm_ext_iff_of_nodup (nd s1) (nd s2)).2 fun g => ?_) s1 s2
 rw [mem_insF, List.mem_filter, List.mem_filter]
 constructor
 · rintro (rfl | ⟨h, h2⟩)
   · exact ⟨hf, by simp⟩
   · refine ⟨h, ?_⟩
     cases hq : left g.nm with
     | true => rw [hq] at h2; cases h2
     | false => rfl
 · rintro ⟨h, h2⟩
   by_cases e : g.nm = f.nm
   · exact .inl (srt_one hs h hf e)
   · refine .inr ⟨h, ?_⟩
     cases hq : left g.nm with
     | false => rfl
     | true =>
      rw [hq] at h2
      have : (g.nm == f.nm) = false := by simpa using e
      rw [this] at h2; cases h2
/-- A map's files. -/
structure Fm (w : World) (m : Nat) (L : List Cel) : Prop where
 hm : w.ownsMap Tryz.prog 9 ptrE m L.length (mapOf L)
 hc : ∀ c ∈ L, w.heap[c.b]? = some (.cells #[c.v, .int .i64 (c.sf : Nat)] 68 (0, 0)) ∧ OwnC w c.v c.dt
 ap : L.Pairwise fun x y => x.b ≠ y.b ∧ ∀ k, x.v.ownBlock = some k → y.v.ownBlock ≠ some k
theorem Fm.keep {w w' : World} {m : Nat} {L : List Cel} (h : Fm w m L) (hm : w'.heap[m]? = w.heap[m]?) (hc : ∀ c ∈ L, w'.heap[c.b]? = w.heap[c.b]? ∧ ∀ k, c.v.ownBlock = some k → w'.heap[k]? = w.heap[k]?) : Fm w' m L :=
 ⟨ownsMap_block h.hm hm, fun c hc' => ⟨(hc c hc').1.trans (h.hc c hc').1, (h.hc c hc').2.block (hc c hc').2⟩, h.ap⟩
theorem Fm.lt {w : World} {m : Nat} {L : List Cel} (h : Fm w m L) : ∀ c ∈ L, c.b < w.heap.size ∧ ∀ k, c.v.ownBlock = some k → k < w.heap.size := fun c hc => by
 refine ⟨(Array.getElem?_eq_some_iff.1 (h.hc c hc).1).1, fun k hk => ?_⟩
 obtain ⟨cur, hg⟩ := (h.hc c hc).2.at k hk
 exact (Array.getElem?_eq_some_iff.1 hg).1
/-- A block that holds no cells is none of the files'. -/
theorem Fm.off {w : World} {m : Nat} {L : List Cel} (h : Fm w m L) {q : Nat} (hq : ∀ cur e fr, w.heap[q]? ≠ some (.cells cur e fr)) : ∀ c ∈ L, c.b ≠ q ∧ ∀ k, c.v.ownBlock = some k → k ≠ q := fun c hc => by
 refine ⟨fun e => hq _ _ _ (by rw [← e]; exact (h.hc c hc).1), fun k hk e => ?_⟩
 obtain ⟨cur, hg⟩ := (h.hc c hc).2.at k hk
 exact hq _ _ _ (by rw [← e]; exact hg)
theorem Fm.put {w w' : World} {m : Nat} {L : List Cel} (h : Fm w m L) {c : Cel} (hf : Fr (fun k => k = m) w w') (hm : ∃ n, w'.ownsMap Tryz.prog 9 ptrE m n (mapOf (insC c L)))
 (hb : w'.heap[c.b]? = some (.cells #[c.v, .int .i64 (c.sf : Nat)] 68 (0, 0))) (ho : OwnC w' c.v c.dt) (hbn : w.heap.size ≤ c.b) (hv : ∀ k, c.v.ownBlock = some k → w.heap.size ≤ k) : Fm w' m (insC c L) := by
 have hoff := h.off (q := m) fun cur e fr hq => by obtain ⟨es, ck, hmm⟩ := ownsMap_isMap h.hm; rw [hmm] at hq; cases hq
 have hlt := h.lt
 refine ⟨?_, fun y hy => ?_, pairwise_insC (fun a b hab => ⟨fun e => hab.1 e.symm, fun k hk hk' => hab.2 k hk' hk⟩) h.ap fun y hy => ⟨fun e => ?_, fun k hk hk' => ?_⟩⟩
 · obtain ⟨n, hm⟩ := hm
   have := ownsMap_tight hm
   rw [mapOf_size] at this; exact this
 · rcases mem_insC.1 hy with rfl | hy
   · exact ⟨hb, ho⟩
   · exact ⟨(hf.block y.b (hlt y hy).1 (hoff y hy).1).trans (h.hc y hy).1, (h.hc y hy).2.block fun k hk => hf.block k ((hlt y hy).2 k hk) ((hoff y hy).2 k hk)⟩
 · have := (hlt y hy).1; omega
 · have := (hlt y hy).2 k hk'; have := hv k hk; omega
theorem ranges_fr {w w' : World} {S : Nat → Prop} {P : Program} {k : TypeId} {R : Value → Option (DataW Unit × List MemPlace)} {b r n : Nat} {D : DataW Unit} {left : Lit → Bool} {cnt : Nat} (h : w.ranges P k R b r n D left cnt) (hf : Fr S w w') (hb : ¬ S b) (hr : ¬ S r) : w'.ranges P k R b r n D left cnt := by
 have h1 := h.owns.lt
 have h2 := h.lt
 obtain ⟨es, clock, since, seen, c0, hb', F, hs, hD, hr', rest⟩ := h
 exact ⟨es, clock, since, seen, c0, (hf.block b h1 hb).trans hb', F, hs, hD, (hf.block r h2 hr).trans hr', rest⟩
theorem ranges_iter {w : World} {P : Program} {k : TypeId} {R : Value → Option (DataW Unit × List MemPlace)} {b r n : Nat} {D : DataW Unit} {left : Lit → Bool} {cnt : Nat} (h : w.ranges P k R b r n D left cnt) : ∀ cur e fr, w.heap[r]? ≠ some (.cells cur e fr) := fun cur e fr hq => by
 obtain ⟨es, clock, since, seen, c0, hb', F, hs, hD, hr', rest⟩ := h
 rw [hr'] at hq; cases hq
theorem ranges_nomap {w : World} {P : Program} {k : TypeId} {R : Value → Option (DataW Unit × List MemPlace)} {b r n : Nat} {D : DataW Unit} {left : Lit → Bool} {cnt : Nat} (h : w.ranges P k R b r n D left cnt) : ∀ es ck, w.heap[r]? ≠ some (.map es ck) := fun es0 ck hq => by
 obtain ⟨es, clock, since, seen, c0, hb', F, hs, hD, hr', rest⟩ := h
 rw [hr'] at hq; cases hq
/-- The copy under way. -/
structure Cp (w : World) (d' m' : Nat) (s : DS) (W : World) (L' : List Cel) : Prop where
 bel : Below w.heap.size w W
 hd : W.heap[d']? = some (.cells #[.map (some m'), .int .i64 (tot s.fs : Nat), .int .i64 s.wr, .int .i64 s.ar, .bool s.dn] 66 (0, 0))
 fm : Fm W m' L'
 nb : ∀ c ∈ L', w.heap.size ≤ c.b ∧ ∀ k, c.v.ownBlock = some k → w.heap.size ≤ k
theorem Cp.step {w W W1 : World} {d' m' r : Nat} {s : DS} {L' : List Cel} (h : Cp w d' m' s W L') (hf : Fr (fun k => k = r) W W1) (hr : w.heap.size ≤ r) (h1 : ∀ cur e fr, W.heap[r]? ≠ some (.cells cur e fr)) (h2 : ∀ es ck, W.heap[r]? ≠ some (.map es ck)) : Cp w d' m' s W1 L' := by
 have hlt := h.fm.lt
 have hoff := h.fm.off h1
 obtain ⟨es, ck, hmm⟩ := ownsMap_isMap h.fm.hm
 refine ⟨h.bel.trans (hf.below h.bel.size fun k hk e => by omega), (hf.block d' (Array.getElem?_eq_some_iff.1 h.hd).1 fun e => h1 _ _ _ (by rw [← e]; exact h.hd)).trans h.hd,
  h.fm.keep (hf.block m' h.fm.hm.lt fun e => h2 _ _ (by rw [← e]; exact hmm)) fun c hc => ⟨hf.block _ (hlt c hc).1 (hoff c hc).1, fun k hk => hf.block k ((hlt c hc).2 k hk) ((hoff c hc).2 k hk)⟩, h.nb⟩
theorem Cp.put {w W W1 : World} {d' m' : Nat} {s : DS} {L' : List Cel} (h : Cp w d' m' s W L') {c : Cel} (hf : Fr (fun k => k = m') W W1) (hm' : w.heap.size ≤ m') (hm : ∃ n, W1.ownsMap Tryz.prog 9 ptrE m' n (mapOf (insC c L')))
 (hb : W1.heap[c.b]? = some (.cells #[c.v, .int .i64 (c.sf : Nat)] 68 (0, 0))) (ho : OwnC W1 c.v c.dt) (hbn : W.heap.size ≤ c.b) (hv : ∀ k, c.v.ownBlock = some k → W.heap.size ≤ k) : Cp w d' m' s W1 (insC c L') := by
 obtain ⟨es, ck, hmm⟩ := ownsMap_isMap h.fm.hm
 have hsz := h.bel.size
 refine ⟨h.bel.trans (hf.below h.bel.size fun k hk e => by omega), (hf.block d' (Array.getElem?_eq_some_iff.1 h.hd).1 fun e => ?_).trans h.hd, h.fm.put hf hm hb ho hbn hv, fun y hy => ?_⟩
 · have h1 := h.hd
   rw [e, hmm] at h1; cases h1
 · rcases mem_insC.1 hy with rfl | hy
   · exact ⟨by omega, fun k hk => by have := hv k hk; omega⟩
   · exact h.nb y hy
theorem Cp.done {B : Int} {w W : World} {d' m' : Nat} {s : DS} {L' : List Cel} (h : Cp w d' m' s W L') (hL : L'.map Cel.f = s.fs) (hd' : w.heap.size ≤ d') (hm' : w.heap.size ≤ m') (hok : DOk B s) : DkS B W d' (fun k => w.heap.size ≤ k ∧ k < W.heap.size) s := by
 have hlt := h.fm.lt
 refine ⟨m', L', ⟨by rw [hL]; exact h.hd, h.fm.hm, h.fm.hc, h.fm.ap⟩, hL, ⟨⟨hd', (Array.getElem?_eq_some_iff.1 h.hd).1⟩, ⟨hm', h.fm.hm.lt⟩, fun c hc => ⟨⟨(h.nb c hc).1, (hlt c hc).1⟩, fun k hk => ⟨(h.nb c hc).2 k hk, (hlt c hc).2 k hk⟩⟩⟩, fun k hk => hk.2, hok⟩
/-- What the range over the disk's map yields. -/
theorem mapOf_yields {L : List Cel} {n : List UInt8} {y : DataW Unit × List MemPlace} (h : ∀ zd, (mapOf L).atKey (.string n) zd = y.1) : ∃ c, getC n L = some c ∧ y.1 = fileLit c.b := by
 have e : ∀ zd, (mapOf L).atKey (.string n) zd = match getC n L with | some c => fileLit c.b | none => zd := fun zd => by
  unfold mapOf DataW.atKey
  simp only [mapOf_find]
  cases getC n L <;> rfl
 cases hg : getC n L with
 | some c =>
  have := h noFile
  rw [e, hg] at this
  exact ⟨c, rfl, this.symm⟩
 | none =>
  have h1 := h noFile
  have h2 := h (fileLit 0)
  rw [e, hg] at h1 h2
  rw [← h1] at h2
  simp [noFile, fileLit] at h2
theorem keyInv (key : Value) (kl : Lit) (h : keyOf Tryz.prog 9 key = some kl) : ∃ x, key = Value.string x := by
 obtain ⟨x, h1, _⟩ := Go.WideMaps.string_of_keyOf Tryz.underlying9 h
 exact ⟨x, h1⟩
theorem ptrInv (v : Value) (y : DataW Unit × List MemPlace) (h : ptrE v = some y) : ∃ c, v = Value.pointer c := by
 unfold ptrE at h
 split at h
 · exact ⟨_, rfl⟩
 · exact ⟨_, rfl⟩
 · cases h
def CopyPost (B : Int) (w : World) (s : DS) (e : Ending) (w' : World) : Prop := ∃ d', e = .returned (.pointer (some ⟨d', 0, none⟩)) ∧ Below w.heap.size w w' ∧ DkS B w' d' (fun k => w.heap.size ≤ k ∧ k < w'.heap.size) s
end Go.Proofs.YtjjcilinghgphaaGreat
