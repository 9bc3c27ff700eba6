/-
  The disk's Copy. Written by a program (e25gen.py).
-/
import Derived.Test.YtkinhilkmjfjhaaEY
import Derived.Maps.RangeWalk
namespace Go.Proofs.Ytkinhilkmjfjhaa
open Go.RowKit Go.Maps Go.Sort
set_option maxRecDepth 100000
attribute [local go_sem] bs_size bs_toList

theorem filt_step {l : List Fl} (hs : Srt l) {f : Fl} (hf : f ∈ l) {left : List UInt8 → Bool} (hl : left f.nm = true) :
    insF f (l.filter fun g => !left g.nm) = l.filter fun g => !(left g.nm && !(g.nm == f.nm)) := by
  have h1 : ∀ g ∈ l.filter (fun g => !left g.nm), g.nm ≠ f.nm := fun g hg e => by
    have := (List.mem_filter.1 hg).2
    rw [e, hl] at this; cases this
  have s1 : Srt (insF f (l.filter fun g => !left g.nm)) := srt_ins (hs.filter _) h1
  have s2 : Srt (l.filter fun g => !(left g.nm && !(g.nm == f.nm))) := hs.filter _
  have nd : ∀ {x : List Fl}, Srt x → x.Nodup := fun {x} hx => (srt_nm hx).imp fun {a b} hab e => hab (by rw [e])
  refine srt_eq ((List.perm_ext_iff_of_nodup (nd s1) (nd s2)).2 fun g => ?_) s1 s2
  rw [mem_insF, List.mem_filter, List.mem_filter]
  constructor
  · rintro (rfl | ⟨h, h2⟩)
    · exact ⟨hf, by simp⟩
    · refine ⟨h, ?_⟩
      cases hq : left g.nm with
      | true => rw [hq] at h2; cases h2
      | false => rfl
  · rintro ⟨h, h2⟩
    by_cases e : g.nm = f.nm
    · exact .inl (srt_one hs h hf e)
    · refine .inr ⟨h, ?_⟩
      cases hq : left g.nm with
      | false => rfl
      | true =>
        rw [hq] at h2
        have : (g.nm == f.nm) = false := by simpa using e
        rw [this] at h2; cases h2
/-- A map's files. -/
structure Fm (w : World) (m : Nat) (L : List Cel) : Prop where
  hm : w.ownsMap Try.prog 9 ptrE m L.length (mapOf L)
  hc : ∀ c ∈ L, w.heap[c.b]? = some (.cells #[c.v, .int .i64 (c.sf : Nat)] 76 (0, 0)) ∧ OwnC w c.v c.dt
  ap : L.Pairwise fun x y => x.b ≠ y.b ∧ ∀ k, x.v.ownBlock = some k → y.v.ownBlock ≠ some k
theorem Fm.keep {w w' : World} {m : Nat} {L : List Cel} (h : Fm w m L) (hm : w'.heap[m]? = w.heap[m]?) (hc : ∀ c ∈ L, w'.heap[c.b]? = w.heap[c.b]? ∧ ∀ k, c.v.ownBlock = some k → w'.heap[k]? = w.heap[k]?) : Fm w' m L :=
  ⟨ownsMap_block h.hm hm, fun c hc' => ⟨(hc c hc').1.trans (h.hc c hc').1, (h.hc c hc').2.block (hc c hc').2⟩, h.ap⟩
theorem Fm.lt {w : World} {m : Nat} {L : List Cel} (h : Fm w m L) : ∀ c ∈ L, c.b < w.heap.size ∧ ∀ k, c.v.ownBlock = some k → k < w.heap.size := fun c hc => by
  refine ⟨(Array.getElem?_eq_some_iff.1 (h.hc c hc).1).1, fun k hk => ?_⟩
  obtain ⟨cur, hg⟩ := (h.hc c hc).2.at k hk
  exact (Array.getElem?_eq_some_iff.1 hg).1
/-- A block that holds no cells is none of the files'. -/
theorem Fm.off {w : World} {m : Nat} {L : List Cel} (h : Fm w m L) {q : Nat} (hq : ∀ cur e fr, w.heap[q]? ≠ some (.cells cur e fr)) : ∀ c ∈ L, c.b ≠ q ∧ ∀ k, c.v.ownBlock = some k → k ≠ q := fun c hc => by
  refine ⟨fun e => hq _ _ _ (by rw [← e]; exact (h.hc c hc).1), fun k hk e => ?_⟩
  obtain ⟨cur, hg⟩ := (h.hc c hc).2.at k hk
  exact hq _ _ _ (by rw [← e]; exact hg)
theorem Fm.put {w w' : World} {m : Nat} {L : List Cel} (h : Fm w m L) {c : Cel} (hf : Fr (fun k => k = m) w w') (hm : ∃ n, w'.ownsMap Try.prog 9 ptrE m n (mapOf (insC c L)))
    (hb : w'.heap[c.b]? = some (.cells #[c.v, .int .i64 (c.sf : Nat)] 76 (0, 0))) (ho : OwnC w' c.v c.dt) (hbn : w.heap.size ≤ c.b) (hv : ∀ k, c.v.ownBlock = some k → w.heap.size ≤ k) : Fm w' m (insC c L) := by
  have hoff := h.off (q := m) fun cur e fr hq => by obtain ⟨es, ck, hmm⟩ := ownsMap_isMap h.hm; rw [hmm] at hq; cases hq
  have hlt := h.lt
  refine ⟨?_, fun y hy => ?_, pairwise_insC (fun a b hab => ⟨fun e => hab.1 e.symm, fun k hk hk' => hab.2 k hk' hk⟩) h.ap fun y hy => ⟨fun e => ?_, fun k hk hk' => ?_⟩⟩
  · obtain ⟨n, hm⟩ := hm
    have := ownsMap_tight hm
    rw [mapOf_size] at this; exact this
  · rcases mem_insC.1 hy with rfl | hy
    · exact ⟨hb, ho⟩
    · exact ⟨(hf.block y.b (hlt y hy).1 (hoff y hy).1).trans (h.hc y hy).1, (h.hc y hy).2.block fun k hk => hf.block k ((hlt y hy).2 k hk) ((hoff y hy).2 k hk)⟩
  · have := (hlt y hy).1; omega
  · have := (hlt y hy).2 k hk'; have := hv k hk; omega
theorem ranges_fr {w w' : World} {S : Nat → Prop} {P : Program} {k : TypeId} {R : Value → Option (DataW Unit × List MemPlace)} {b r n : Nat} {D : DataW Unit} {left : Lit → Bool} {cnt : Nat} (h : w.ranges P k R b r n D left cnt) (hf : Fr S w w') (hb : ¬ S b) (hr : ¬ S r) : w'.ranges P k R b r n D left cnt := by
  have h1 := h.owns.lt
  have h2 := h.lt
  obtain ⟨es, clock, since, seen, c0, hb', F, hs, hD, hr', rest⟩ := h
  exact ⟨es, clock, since, seen, c0, (hf.block b h1 hb).trans hb', F, hs, hD, (hf.block r h2 hr).trans hr', rest⟩
theorem ranges_iter {w : World} {P : Program} {k : TypeId} {R : Value → Option (DataW Unit × List MemPlace)} {b r n : Nat} {D : DataW Unit} {left : Lit → Bool} {cnt : Nat} (h : w.ranges P k R b r n D left cnt) : ∀ cur e fr, w.heap[r]? ≠ some (.cells cur e fr) := fun cur e fr hq => by
  obtain ⟨es, clock, since, seen, c0, hb', F, hs, hD, hr', rest⟩ := h
  rw [hr'] at hq; cases hq
theorem ranges_nomap {w : World} {P : Program} {k : TypeId} {R : Value → Option (DataW Unit × List MemPlace)} {b r n : Nat} {D : DataW Unit} {left : Lit → Bool} {cnt : Nat} (h : w.ranges P k R b r n D left cnt) : ∀ es ck, w.heap[r]? ≠ some (.map es ck) := fun es0 ck hq => by
  obtain ⟨es, clock, since, seen, c0, hb', F, hs, hD, hr', rest⟩ := h
  rw [hr'] at hq; cases hq
/-- The copy under way. -/
structure Cp (w : World) (d' m' : Nat) (s : DS) (W : World) (L' : List Cel) : Prop where
  bel : Below w.heap.size w W
  hd : W.heap[d']? = some (.cells #[.map (some m'), .int .i64 (tot s.fs : Nat), .int .i64 s.wr, .int .i64 s.ar, .bool s.dn] 71 (0, 0))
  fm : Fm W m' L'
  nb : ∀ c ∈ L', w.heap.size ≤ c.b ∧ ∀ k, c.v.ownBlock = some k → w.heap.size ≤ k
theorem Cp.step {w W W1 : World} {d' m' r : Nat} {s : DS} {L' : List Cel} (h : Cp w d' m' s W L') (hf : Fr (fun k => k = r) W W1) (hr : w.heap.size ≤ r) (h1 : ∀ cur e fr, W.heap[r]? ≠ some (.cells cur e fr)) (h2 : ∀ es ck, W.heap[r]? ≠ some (.map es ck)) : Cp w d' m' s W1 L' := by
  have hlt := h.fm.lt
  have hoff := h.fm.off h1
  obtain ⟨es, ck, hmm⟩ := ownsMap_isMap h.fm.hm
  refine ⟨h.bel.trans (hf.below h.bel.size fun k hk e => by omega), (hf.block d' (Array.getElem?_eq_some_iff.1 h.hd).1 fun e => h1 _ _ _ (by rw [← e]; exact h.hd)).trans h.hd,
    h.fm.keep (hf.block m' h.fm.hm.lt fun e => h2 _ _ (by rw [← e]; exact hmm)) fun c hc => ⟨hf.block _ (hlt c hc).1 (hoff c hc).1, fun k hk => hf.block k ((hlt c hc).2 k hk) ((hoff c hc).2 k hk)⟩, h.nb⟩
theorem Cp.put {w W W1 : World} {d' m' : Nat} {s : DS} {L' : List Cel} (h : Cp w d' m' s W L') {c : Cel} (hf : Fr (fun k => k = m') W W1) (hm' : w.heap.size ≤ m') (hm : ∃ n, W1.ownsMap Try.prog 9 ptrE m' n (mapOf (insC c L')))
    (hb : W1.heap[c.b]? = some (.cells #[c.v, .int .i64 (c.sf : Nat)] 76 (0, 0))) (ho : OwnC W1 c.v c.dt) (hbn : W.heap.size ≤ c.b) (hv : ∀ k, c.v.ownBlock = some k → W.heap.size ≤ k) : Cp w d' m' s W1 (insC c L') := by
  obtain ⟨es, ck, hmm⟩ := ownsMap_isMap h.fm.hm
  have hsz := h.bel.size
  refine ⟨h.bel.trans (hf.below h.bel.size fun k hk e => by omega), (hf.block d' (Array.getElem?_eq_some_iff.1 h.hd).1 fun e => ?_).trans h.hd, h.fm.put hf hm hb ho hbn hv, fun y hy => ?_⟩
  · have h1 := h.hd
    rw [e, hmm] at h1; cases h1
  · rcases mem_insC.1 hy with rfl | hy
    · exact ⟨by omega, fun k hk => by have := hv k hk; omega⟩
    · exact h.nb y hy
theorem Cp.done {B : Int} {w W : World} {d' m' : Nat} {s : DS} {L' : List Cel} (h : Cp w d' m' s W L') (hL : L'.map Cel.f = s.fs) (hd' : w.heap.size ≤ d') (hm' : w.heap.size ≤ m') (hok : DOk B s) : DkS B W d' (fun k => w.heap.size ≤ k ∧ k < W.heap.size) s := by
  have hlt := h.fm.lt
  refine ⟨m', L', ⟨by rw [hL]; exact h.hd, h.fm.hm, h.fm.hc, h.fm.ap⟩, hL, ⟨⟨hd', (Array.getElem?_eq_some_iff.1 h.hd).1⟩, ⟨hm', h.fm.hm.lt⟩, fun c hc => ⟨⟨(h.nb c hc).1, (hlt c hc).1⟩, fun k hk => ⟨(h.nb c hc).2 k hk, (hlt c hc).2 k hk⟩⟩⟩, fun k hk => hk.2, hok⟩
/-- What the range over the disk's map yields. -/
theorem mapOf_yields {L : List Cel} {n : List UInt8} {y : DataW Unit × List MemPlace} (h : ∀ zd, (mapOf L).atKey (.string n) zd = y.1) : ∃ c, getC n L = some c ∧ y.1 = fileLit c.b := by
  have e : ∀ zd, (mapOf L).atKey (.string n) zd = match getC n L with | some c => fileLit c.b | none => zd := fun zd => by
    unfold mapOf DataW.atKey
    simp only [mapOf_find]
    cases getC n L <;> rfl
  cases hg : getC n L with
  | some c =>
    have := h noFile
    rw [e, hg] at this
    exact ⟨c, rfl, this.symm⟩
  | none =>
    have h1 := h noFile
    have h2 := h (fileLit 0)
    rw [e, hg] at h1 h2
    rw [← h1] at h2
    simp [noFile, fileLit] at h2
theorem keyInv (key : Value) (kl : Lit) (h : keyOf Try.prog 9 key = some kl) : ∃ x, key = Value.string x := by
  obtain ⟨x, h1, _⟩ := Go.WideMaps.string_of_keyOf Try.underlying9 h
  exact ⟨x, h1⟩
theorem ptrInv (v : Value) (y : DataW Unit × List MemPlace) (h : ptrE v = some y) : ∃ c, v = Value.pointer c := by
  unfold ptrE at h
  split at h
  · exact ⟨_, rfl⟩
  · exact ⟨_, rfl⟩
  · cases h
def CopyPost (B : Int) (w : World) (s : DS) (e : Ending) (w' : World) : Prop := ∃ d', e = .returned (.pointer (some ⟨d', 0, none⟩)) ∧ Below w.heap.size w w' ∧ DkS B w' d' (fun k => w.heap.size ≤ k ∧ k < w'.heap.size) s
set_option maxHeartbeats 2000000 in
theorem copy_any (d : Nat) (S : Nat → Prop) (B : Int) (s : DS) (w : World) (h : DkS B w d S s) : Calls Try.prog 15 #[.pointer (some ⟨d, 0, none⟩)] w (CopyPost B w s) := by
  obtain ⟨m, L, hD, hL, hC, hS, hok⟩ := h
  have hmm := @run_makeMap Try.prog
  have hd := hD.hd
  rw [hL] at hd
  have c0 := cell_of_row w d 0 _ _ _ hd
  have c1 : w.cell? ⟨d, 1, none⟩ = some (.int .i64 (tot s.fs : Nat)) := cell_of_row w d 1 _ _ _ hd
  have c2 : w.cell? ⟨d, 2, none⟩ = some (.int .i64 s.wr) := cell_of_row w d 2 _ _ _ hd
  have c3 : w.cell? ⟨d, 3, none⟩ = some (.int .i64 s.ar) := cell_of_row w d 3 _ _ _ hd
  have c4 : w.cell? ⟨d, 4, none⟩ = some (.bool s.dn) := cell_of_row w d 4 _ _ _ hd
  have HD := Lib.hid hD
  have HL := Lib.hid hL
  have HOK := Lib.hid hok
  clear hD hL hC hS hok hd
  go_enter Try.func15, Try.ntmps15
  go_wp2_with fail
  refine wp_region_ht 17 (fun W => W.cell? ⟨d, 1, none⟩ = some (.int .i64 (tot s.fs : Nat)) ∧ W.cell? ⟨d, 2, none⟩ = some (.int .i64 s.wr) ∧ W.cell? ⟨d, 3, none⟩ = some (.int .i64 s.ar) ∧ W.cell? ⟨d, 4, none⟩ = some (.bool s.dn)) (by kernel_rfl) (by kernel_rfl) ?_ (fun hHeld => ?_)
  · exact ⟨c1, c2, c3, c4⟩
  try simp only [Act.put, List.setIfInBounds_toArray, List.set_cons_zero, List.set_cons_succ]
  refine wpHT_takeD (i := 1) (d := 7) (v := ?_) (by kernel_rfl) rfl rfl (by decide) (by kernel_rfl) (by kernel_rfl) (fun _ _ _ h => h) (Or.inl ⟨by kernel_rfl, ?_⟩) (by assumption) ?_
  rotate_left
  · intro w hSw; (try dsimp only at hSw); go_simp; (try with_reducible rfl)
  try simp only [Act.put, List.setIfInBounds_toArray, List.set_cons_zero, List.set_cons_succ]
  refine wpHT_takeD (i := 2) (d := 8) (v := ?_) (by kernel_rfl) rfl rfl (by decide) (by kernel_rfl) (by kernel_rfl) (fun _ _ _ h => h) (Or.inl ⟨by kernel_rfl, ?_⟩) (by assumption) ?_
  rotate_left
  · intro w hSw; (try dsimp only at hSw); go_simp; (try with_reducible rfl)
  try simp only [Act.put, List.setIfInBounds_toArray, List.set_cons_zero, List.set_cons_succ]
  refine wpHT_takeD (i := 3) (d := 9) (v := ?_) (by kernel_rfl) rfl rfl (by decide) (by kernel_rfl) (by kernel_rfl) (fun _ _ _ h => h) (Or.inl ⟨by kernel_rfl, ?_⟩) (by assumption) ?_
  rotate_left
  · intro w hSw; (try dsimp only at hSw); go_simp; (try with_reducible rfl)
  try simp only [Act.put, List.setIfInBounds_toArray, List.set_cons_zero, List.set_cons_succ]
  refine wpHT_takeD (i := 4) (d := 10) (v := ?_) (by kernel_rfl) rfl rfl (by decide) (by kernel_rfl) (by kernel_rfl) (fun _ _ _ h => h) (Or.inl ⟨by kernel_rfl, ?_⟩) (by assumption) ?_
  rotate_left
  · intro w hSw; (try dsimp only at hSw); go_simp; (try with_reducible rfl)
  try simp only [Act.put, List.setIfInBounds_toArray, List.set_cons_zero, List.set_cons_succ]
  refine wpHT_takeD (i := 5) (d := 11) (v := ?_) (by kernel_rfl) rfl rfl (by decide) (by kernel_rfl) (by kernel_rfl) (fun _ _ _ h => h) (Or.inl ⟨by kernel_rfl, ?_⟩) (by assumption) ?_
  rotate_left
  · intro w hSw; (try dsimp only at hSw); go_simp; (try with_reducible rfl)
  try simp only [Act.put, List.setIfInBounds_toArray, List.set_cons_zero, List.set_cons_succ]
  refine wpHT_takeD (i := 6) (d := 12) (v := ?_) (by kernel_rfl) rfl rfl (by decide) (by kernel_rfl) (by kernel_rfl) (fun _ _ _ h => h) (Or.inl ⟨by kernel_rfl, ?_⟩) (by assumption) ?_
  rotate_left
  · intro w hSw; (try dsimp only at hSw); go_simp; (try with_reducible rfl)
  try simp only [Act.put, List.setIfInBounds_toArray, List.set_cons_zero, List.set_cons_succ]
  refine wpHT_takeD (i := 7) (d := 13) (v := ?_) (by kernel_rfl) rfl rfl (by decide) (by kernel_rfl) (by kernel_rfl) (fun _ _ _ h => h) (Or.inl ⟨by kernel_rfl, ?_⟩) (by assumption) ?_
  rotate_left
  · intro w hSw; (try dsimp only at hSw); go_simp; (try with_reducible rfl)
  try simp only [Act.put, List.setIfInBounds_toArray, List.set_cons_zero, List.set_cons_succ]
  refine wpHT_takeD (i := 8) (d := 14) (v := ?_) (by kernel_rfl) rfl rfl (by decide) (by kernel_rfl) (by kernel_rfl) (fun _ _ _ h => h) (Or.inl ⟨by kernel_rfl, ?_⟩) (by assumption) ?_
  rotate_left
  · intro w hSw; (try dsimp only at hSw); go_simp; (try with_reducible rfl)
  try simp only [Act.put, List.setIfInBounds_toArray, List.set_cons_zero, List.set_cons_succ]
  refine wpHT_takeD (i := 9) (d := 15) (v := ?_) (by kernel_rfl) rfl rfl (by decide) (by kernel_rfl) (by kernel_rfl) (fun _ _ _ h => h) (Or.inl ⟨by kernel_rfl, ?_⟩) (by assumption) ?_
  rotate_left
  · intro w hSw; (try dsimp only at hSw); go_simp; (try with_reducible rfl)
  try simp only [Act.put, List.setIfInBounds_toArray, List.set_cons_zero, List.set_cons_succ]
  refine wpHT_takeD (i := 10) (d := 16) (v := ?_) (by kernel_rfl) rfl rfl (by decide) (by kernel_rfl) (by kernel_rfl) (fun _ _ _ h => h) (Or.inl ⟨by kernel_rfl, ?_⟩) (by assumption) ?_
  rotate_left
  · intro w hSw; (try dsimp only at hSw); go_simp; (try with_reducible rfl)
  try simp only [Act.put, List.setIfInBounds_toArray, List.set_cons_zero, List.set_cons_succ]
  refine wpHT_takeD (i := 11) (d := 17) (v := ?_) (by kernel_rfl) rfl rfl (by decide) (by kernel_rfl) (by kernel_rfl) (fun _ _ _ h => h) (Or.inl ⟨by kernel_rfl, ?_⟩) (by assumption) ?_
  rotate_left
  · intro w hSw; (try dsimp only at hSw); go_simp; (try with_reducible rfl)
  try simp only [Act.put, List.setIfInBounds_toArray, List.set_cons_zero, List.set_cons_succ]
  refine wpHT_takeD (i := 12) (d := 18) (v := ?_) (by kernel_rfl) rfl rfl (by decide) (by kernel_rfl) (by kernel_rfl) (fun _ _ _ h => h) (Or.inl ⟨by kernel_rfl, ?_⟩) (by assumption) ?_
  rotate_left
  · intro w hSw; (try dsimp only at hSw); go_simp; (try with_reducible rfl)
  try simp only [Act.put, List.setIfInBounds_toArray, List.set_cons_zero, List.set_cons_succ]
  refine wpHT_takeD (i := 13) (d := 19) (v := ?_) (by kernel_rfl) rfl rfl (by decide) (by kernel_rfl) (by kernel_rfl) (fun _ _ _ h => h) (Or.inl ⟨by kernel_rfl, ?_⟩) (by assumption) ?_
  rotate_left
  · intro w hSw; (try dsimp only at hSw); go_simp; (try with_reducible rfl)
  try simp only [Act.put, List.setIfInBounds_toArray, List.set_cons_zero, List.set_cons_succ]
  refine wpHT_takeD (i := 14) (d := 20) (v := ?_) (by kernel_rfl) rfl rfl (by decide) (by kernel_rfl) (by kernel_rfl) (fun _ _ _ h => h) (Or.inl ⟨by kernel_rfl, ?_⟩) (by assumption) ?_
  rotate_left
  · intro w hSw; (try dsimp only at hSw); go_simp; (try with_reducible rfl)
  try simp only [Act.put, List.setIfInBounds_toArray, List.set_cons_zero, List.set_cons_succ]
  refine wpHT_takeD (i := 15) (d := 21) (v := ?_) (by kernel_rfl) rfl rfl (by decide) (by kernel_rfl) (by kernel_rfl) (fun _ _ _ h => h) (Or.inl ⟨by kernel_rfl, ?_⟩) (by assumption) ?_
  rotate_left
  · intro w hSw; (try dsimp only at hSw); go_simp; (try with_reducible rfl)
  try simp only [Act.put, List.setIfInBounds_toArray, List.set_cons_zero, List.set_cons_succ]
  refine wpHT_takeD (i := 16) (d := 22) (v := ?_) (by kernel_rfl) rfl rfl (by decide) (by kernel_rfl) (by kernel_rfl) (fun _ _ _ h => h) (Or.inl ⟨by kernel_rfl, ?_⟩) (by assumption) ?_
  rotate_left
  · intro w hSw; (try dsimp only at hSw); go_simp; (try with_reducible rfl)
  try simp only [Act.put, List.setIfInBounds_toArray, List.set_cons_zero, List.set_cons_succ]
  refine wpHT_one (i := 0) (by kernel_rfl) rfl (by decide) (fun K hK => ?_)
  go_simp
  refine hK.out _ _ ?_ (fun hHeld => ?_)
  · exact ⟨cell_alloc_keep c1, cell_alloc_keep c2, cell_alloc_keep c3, cell_alloc_keep c4⟩
  clear hK K
  try simp only [Act.put, List.setIfInBounds_toArray, List.set_cons_zero, List.set_cons_succ]
  refine wpHT_done (by kernel_rfl) ?_
  simp only [List.drop_succ_cons, List.drop_zero]
  clear hHeld
  have c0' : ((w.alloc (Obj.map #[] 0)).alloc (.cells #[.map (some w.heap.size), .int .i64 (tot s.fs : Nat), .int .i64 s.wr, .int .i64 s.ar, .bool s.dn] 71)).cell? ⟨d, 0, none⟩ = some (.map (some m)) := cell_alloc_keep (cell_alloc_keep c0)
  have HM2 : Hid (((w.alloc (Obj.map #[] 0)).alloc (.cells #[.map (some w.heap.size), .int .i64 (tot s.fs : Nat), .int .i64 s.wr, .int .i64 s.ar, .bool s.dn] 71)).ownsMap Try.prog 9 ptrE m L.length (mapOf L)) := (HD.out.hm.alloc _).alloc _
  have HCp : Hid (Cp w (w.heap.size + 1) w.heap.size s ((w.alloc (Obj.map #[] 0)).alloc (.cells #[.map (some w.heap.size), .int .i64 (tot s.fs : Nat), .int .i64 s.wr, .int .i64 s.ar, .bool s.dn] 71)) []) :=
    ⟨((Below.refl _ w).alloc (Nat.le_refl _) _).alloc (by simp) _, by rw [show w.heap.size + 1 = (w.alloc (.map #[] 0)).heap.size by simp]; exact heap_alloc_new _ _, ⟨(World.ownsMap_made w Try.prog 9 ptrE).alloc _, fun c hc => by simp at hc, List.Pairwise.nil⟩, fun c hc => by simp at hc⟩
  clear c0 c1 c2 c3 c4
  go_wp2_with (at_range; refine wpList_range_own _ rfl _ 69 rfl 9 73 strKeyed Try.underlying69 ptrE m L.length (mapOf L) rfl HM2.out ?_; intro w3 hrg hg3 hs3)
  have hsz : ((w.alloc (Obj.map #[] 0)).alloc (.cells #[.map (some w.heap.size), .int .i64 (tot s.fs : Nat), .int .i64 s.wr, .int .i64 s.ar, .bool s.dn] 71)).drew.heap.size = w.heap.size + 2 := by simp
  rw [hsz] at hrg ⊢
  clear hsz
  go_frame
  have hrg2 : w3.ranges Try.prog 9 ptrE m (w.heap.size + 2) L.length (mapOf L) (has (mapOf L)) (size (mapOf L)) := hrg
  have HRG0 := Lib.hid hrg2
  have HCp3 : Hid (Cp w (w.heap.size + 1) w.heap.size s w3 []) := HCp.out.step (r := w.heap.size + 2) ((Fr.refl _ _).drew.grown hg3 (fun k _ (h : none = some k) => by cases h)) (by omega) (fun cur e fr hq => by have := (Array.getElem?_eq_some_iff.1 hq).1; simp at this) (fun es ck hq => by have := (Array.getElem?_eq_some_iff.1 hq).1; simp at this)
  have HF0 : Hid (([] : List Cel).map Cel.f = s.fs.filter fun f => !has (mapOf L) (.string f.nm)) := by
    show [] = _
    rw [eq_comm, List.filter_eq_nil_iff]
    intro f hf
    rw [← HL.out, List.mem_map] at hf
    obtain ⟨c, hc, rfl⟩ := hf
    have : (getC c.nm L).isSome = true := by unfold getC; rw [List.isSome_find?, List.any_eq_true]; exact ⟨c, hc, by simp⟩
    show ¬ (!has (mapOf L) (.string c.nm)) = true
    rw [mapOf_has, this]; decide
  clear hrg hrg2 hg3 hs3 c0' HM2 HCp
  go_loopw [4, 5] (fun _ _ wr => ∃ (left : Lit → Bool) (cnt : Nat) (L' : List Cel), Hid (wr.ranges Try.prog 9 ptrE m (w.heap.size + 2) L.length (mapOf L) left cnt) ∧ Hid (Cp w (w.heap.size + 1) w.heap.size s wr L') ∧ Hid (L'.map Cel.f = s.fs.filter fun f => !left (.string f.nm))) (fun _ _ wr => wr.rangeLeft m (w.heap.size + 2))
  case atStart => exact ⟨_, _, [], HRG0.out, HCp3.out, HF0.out⟩
  case round =>
    clear HRG0 HCp3 HF0
    obtain ⟨left, cnt, L', HRG, HCP, HFI⟩ := hrel
    go_wp2_with (at_next; refine wpList_next_ranges _ rfl _ rfl 9 strKeyed ptrE Value.string Value.pointer keyInv ptrInv m (w.heap.size + 2) L.length (mapOf L) left cnt rfl HRG.out ?_ ?_)
    · intro hc0 hl0
      have hLf : L'.map Cel.f = s.fs := by rw [HFI.out, List.filter_eq_self]; intro f hf; rw [hl0]; rfl
      have HLF := Lib.hid hLf
      clear hc0 hl0 hLf
      go_wp2
      go_ret
      exact ⟨_, rfl, HCP.out.bel, HCP.out.done HLF.out (by omega) (Nat.le_refl _) HOK.out⟩
    · intro x c kl y1 y2 w1 cnt1 hkx hlk hpy hat hrg1 hlt hg1 hs1 hen
      obtain ⟨nm, rfl⟩ : ∃ nm, x = bs nm := ⟨x.data.toList, by simp [bs]⟩
      obtain ⟨sx, ex, rfl, hsx⟩ := Go.WideMaps.string_of_keyOf Try.underlying9 hkx
      cases ex
      rw [show (bs nm).data.toList = nm by simp [bs]] at hlk hat hrg1
      obtain ⟨c0, hgC, hyb⟩ := mapOf_yields (y := (y1, y2)) hat
      obtain rfl : y1 = fileLit c0.b := hyb
      cases ptrE_inv hpy
      obtain ⟨hcL, hcn⟩ := getC_some hgC
      obtain ⟨hcb, hco⟩ := HD.out.hc c0 hcL
      have hfm : c0.f ∈ s.fs := by rw [← HL.out]; exact List.mem_map_of_mem hcL
      have hle : c0.dt.length ≤ 4194304 := Nat.le_trans (dt_le_tot (f := c0.f) hfm) HOK.out.tot
      have hnm := (HOK.out.each c0.f hfm).2.1
      have hnm2 : nm.length ≤ 20 := by rw [← hcn]; exact hnm
      have hl64 : L'.length ≤ 64 := by
        have h1 : L'.length = (L'.map Cel.f).length := by simp
        rw [h1, HFI.out]; exact Nat.le_trans (List.length_filter_le _ _) HOK.out.len
      obtain ⟨a, cap, hv, hrd⟩ := hco.rd
      rw [hv] at hcb
      have hf1 : Fr (fun k => k = w.heap.size + 2) wr w1 := Fr.grown (Fr.refl _ _) hg1 (fun k _ h => (Option.some.inj h).symm)
      have HCP1 := Lib.hid (HCP.out.step hf1 (by omega) (ranges_iter HRG.out) (ranges_nomap HRG.out))
      have g0 : w1.cell? ⟨c0.b, 0, none⟩ = some (.slice a c0.dt.length cap) := cell_below (cell_of_row w c0.b 0 _ _ _ hcb) HCP1.out.bel
      have g1 : w1.cell? ⟨c0.b, 1, none⟩ = some (.int .i64 (c0.sf : Nat)) := cell_below (cell_of_row w c0.b 1 _ _ _ hcb) HCP1.out.bel
      have gd : w1.cell? ⟨w.heap.size + 1, 0, none⟩ = some (.map (some w.heap.size)) := cell_of_row w1 (w.heap.size + 1) 0 _ _ _ HCP1.out.hd
      have HRD := Lib.hid (hrd.below HCP1.out.bel)
      have HRG1 := Lib.hid hrg1
      have HLK := Lib.hid hlk
      have HLT := Lib.hid hlt
      have HFM := Lib.hid hfm
      have HCN := Lib.hid hcn
      have hbase : Hid (w.heap.size ≤ w1.heap.size) := HCP1.out.bel.size
      clear hkx hlk hpy hat hrg1 hlt hg1 hs1 hgC hcL hcn hcb hco hfm hnm hv hrd hf1 HCP hsx
      go_wp2_with fail

      refine wp_region_ht 17 (fun W => W.cell? ⟨c0.b, 0, none⟩ = some (.slice a c0.dt.length cap) ∧ W.cell? ⟨c0.b, 1, none⟩ = some (.int .i64 (c0.sf : Nat)) ∧ W.cell? ⟨w.heap.size + 1, 0, none⟩ = some (.map (some w.heap.size))) (by kernel_rfl) (by kernel_rfl) ?_ (fun hHeld => ?_)
      · exact ⟨g0, g1, gd⟩
      try simp only [Act.put, List.setIfInBounds_toArray, List.set_cons_zero, List.set_cons_succ]
      refine wpHT_takeD (i := 0) (d := 35) (v := ?_) (by kernel_rfl) rfl rfl (by decide) (by kernel_rfl) (by kernel_rfl) (fun _ _ _ h => h) (Or.inl ⟨by kernel_rfl, ?_⟩) (by assumption) ?_
      rotate_left
      · intro w hSw; (try dsimp only at hSw); go_simp; (try with_reducible rfl)
      try simp only [Act.put, List.setIfInBounds_toArray, List.set_cons_zero, List.set_cons_succ]
      refine wpHT_takeD (i := 1) (d := 36) (v := ?_) (by kernel_rfl) rfl rfl (by decide) (by kernel_rfl) (by kernel_rfl) (fun _ _ _ h => h) (Or.inl ⟨by kernel_rfl, ?_⟩) (by assumption) ?_
      rotate_left
      · intro w hSw; (try dsimp only at hSw); go_simp; (try with_reducible rfl)
      try simp only [Act.put, List.setIfInBounds_toArray, List.set_cons_zero, List.set_cons_succ]
      refine wpHT_takeD (i := 2) (d := 37) (v := ?_) (by kernel_rfl) rfl rfl (by decide) (by kernel_rfl) (by kernel_rfl) (fun _ _ _ h => h) (Or.inl ⟨by kernel_rfl, ?_⟩) (by assumption) ?_
      rotate_left
      · intro w hSw; (try dsimp only at hSw); go_simp; (try with_reducible rfl)
      try simp only [Act.put, List.setIfInBounds_toArray, List.set_cons_zero, List.set_cons_succ]
      refine wpHT_takeD (i := 3) (d := 38) (v := ?_) (by kernel_rfl) rfl rfl (by decide) (by kernel_rfl) (by kernel_rfl) (fun _ _ _ h => h) (Or.inl ⟨by kernel_rfl, ?_⟩) (by assumption) ?_
      rotate_left
      · intro w hSw; (try dsimp only at hSw); go_simp; (try with_reducible rfl)
      try simp only [Act.put, List.setIfInBounds_toArray, List.set_cons_zero, List.set_cons_succ]
      refine wpHT_takeD (i := 4) (d := 39) (v := ?_) (by kernel_rfl) rfl rfl (by decide) (by kernel_rfl) (by kernel_rfl) (fun _ _ _ h => h) (Or.inl ⟨by kernel_rfl, ?_⟩) (by assumption) ?_
      rotate_left
      · intro w hSw; (try dsimp only at hSw); go_simp; (try with_reducible rfl)
      try simp only [Act.put, List.setIfInBounds_toArray, List.set_cons_zero, List.set_cons_succ]
      refine wpHT_takeD (i := 6) (d := 41) (v := ?_) (by kernel_rfl) rfl rfl (by decide) (by kernel_rfl) (by kernel_rfl) (fun _ _ _ h => h) (Or.inl ⟨by kernel_rfl, ?_⟩) (by assumption) ?_
      rotate_left
      · intro w hSw; (try dsimp only at hSw); go_simp; (try with_reducible rfl)
      try simp only [Act.put, List.setIfInBounds_toArray, List.set_cons_zero, List.set_cons_succ]
      refine wpHT_takeD (i := 7) (d := 42) (v := ?_) (by kernel_rfl) rfl rfl (by decide) (by kernel_rfl) (by kernel_rfl) (fun _ _ _ h => h) (Or.inl ⟨by kernel_rfl, ?_⟩) (by assumption) ?_
      rotate_left
      · intro w hSw; (try dsimp only at hSw); go_simp; (try with_reducible rfl)
      try simp only [Act.put, List.setIfInBounds_toArray, List.set_cons_zero, List.set_cons_succ]
      refine wpHT_takeD (i := 8) (d := 43) (v := ?_) (by kernel_rfl) rfl rfl (by decide) (by kernel_rfl) (by kernel_rfl) (fun _ _ _ h => h) (Or.inl ⟨by kernel_rfl, ?_⟩) (by assumption) ?_
      rotate_left
      · intro w hSw; (try dsimp only at hSw); go_simp; (try with_reducible rfl)
      try simp only [Act.put, List.setIfInBounds_toArray, List.set_cons_zero, List.set_cons_succ]
      refine wpHT_takeD (i := 9) (d := 44) (v := ?_) (by kernel_rfl) rfl rfl (by decide) (by kernel_rfl) (by kernel_rfl) (fun _ _ _ h => h) (Or.inl ⟨by kernel_rfl, ?_⟩) (by assumption) ?_
      rotate_left
      · intro w hSw; (try dsimp only at hSw); go_simp; (try with_reducible rfl)
      try simp only [Act.put, List.setIfInBounds_toArray, List.set_cons_zero, List.set_cons_succ]
      refine wpHT_takeD (i := 11) (d := 46) (v := ?_) (by kernel_rfl) rfl rfl (by decide) (by kernel_rfl) (by kernel_rfl) (fun _ _ _ h => h) (Or.inl ⟨by kernel_rfl, ?_⟩) (by assumption) ?_
      rotate_left
      · intro w hSw; (try dsimp only at hSw); go_simp; (try with_reducible rfl)
      try simp only [Act.put, List.setIfInBounds_toArray, List.set_cons_zero, List.set_cons_succ]
      refine wpHT_takeD (i := 12) (d := 47) (v := ?_) (by kernel_rfl) rfl rfl (by decide) (by kernel_rfl) (by kernel_rfl) (fun _ _ _ h => h) (Or.inl ⟨by kernel_rfl, ?_⟩) (by assumption) ?_
      rotate_left
      · intro w hSw; (try dsimp only at hSw); go_simp; (try with_reducible rfl)
      try simp only [Act.put, List.setIfInBounds_toArray, List.set_cons_zero, List.set_cons_succ]
      refine wpHT_takeD (i := 13) (d := 48) (v := ?_) (by kernel_rfl) rfl rfl (by decide) (by kernel_rfl) (by kernel_rfl) (fun _ _ _ h => h) (Or.inl ⟨by kernel_rfl, ?_⟩) (by assumption) ?_
      rotate_left
      · intro w hSw; (try dsimp only at hSw); go_simp; (try with_reducible rfl)
      try simp only [Act.put, List.setIfInBounds_toArray, List.set_cons_zero, List.set_cons_succ]
      refine wpHT_takeD (i := 14) (d := 49) (v := ?_) (by kernel_rfl) rfl rfl (by decide) (by kernel_rfl) (by kernel_rfl) (fun _ _ _ h => h) (Or.inl ⟨by kernel_rfl, ?_⟩) (by assumption) ?_
      rotate_left
      · intro w hSw; (try dsimp only at hSw); go_simp; (try with_reducible rfl)
      try simp only [Act.put, List.setIfInBounds_toArray, List.set_cons_zero, List.set_cons_succ]
      refine wpHT_one (i := 5) (by kernel_rfl) rfl (by decide) (fun K hK => ?_)
      go_simp
      refine hK.out _ _ ?_ (fun hHeld => ?_)
      · exact ⟨cell_alloc_keep (w := w1.drew) g0, cell_alloc_keep (w := w1.drew) g1, cell_alloc_keep (w := w1.drew) gd⟩
      clear hK K
      try simp only [Act.put, List.setIfInBounds_toArray, List.set_cons_zero, List.set_cons_succ]
      refine wpHT_one (i := 10) (by kernel_rfl) rfl (by decide) (fun K hK => ?_)
      refine step_app2 S5 rfl _ _ rfl w.heap.size rfl (ownsRow_mono (made0 w1.drew) hbase.out) rfl (HRD.out.below ((Below.refl _ w1).drew.alloc (Nat.le_refl _) _)).2 (B8_one _) (by omega) (by unfold maxLen; omega) (Nat.le_trans hbase.out (by simp)) ?_
      intro v2 w2 ho2 hg2 hl2
      have ho2 : Own8 w2 w.heap.size 5 v2 c0.dt := Own8.mk ho2 (by simp) (by simp)
      obtain ⟨a2, cap2, rfl, hrd2⟩ := ho2.rd
      have hb2 : Below w1.heap.size w1 w2 := ((Below.refl _ w1).drew.alloc (Nat.le_refl _) _).grown hg2 (by simp) (fun k hk => Nat.le_of_eq (Option.some.inj hk))
      have g0 : w2.cell? ⟨c0.b, 0, none⟩ = some (.slice a c0.dt.length cap) := cell_below g0 hb2
      have g1 : w2.cell? ⟨c0.b, 1, none⟩ = some (.int .i64 (c0.sf : Nat)) := cell_below g1 hb2
      have gd : w2.cell? ⟨w.heap.size + 1, 0, none⟩ = some (.map (some w.heap.size)) := cell_below gd hb2
      have HO2 := Lib.hid ho2
      have HB2 := Lib.hid hb2
      have HN2 : Hid (∀ k, (Value.slice a2 c0.dt.length cap2).ownBlock = some k → w1.heap.size ≤ k) := fun k hk => by
        rcases hl2 with e | e
        · have h3 : w1.heap.size = k := Option.some.inj (e.symm.trans hk)
          omega
        · have h3 := Option.some.inj (e.symm.trans hk)
          have h4 : w1.drew.heap.size = w1.heap.size := rfl
          simp at h3; omega
      clear ho2 hg2 hl2 hrd2 hb2
      refine hK.out _ _ ?_ (fun hHeld => ?_)
      · exact ⟨g0, g1, gd⟩
      clear hK K
      try simp only [Act.put, List.setIfInBounds_toArray]
      refine wpHT_takeD (i := 15) (d := 50) (v := ?_) (by kernel_rfl) rfl rfl (by decide) (by kernel_rfl) (by kernel_rfl) (fun _ _ _ h => h) (Or.inl ⟨by kernel_rfl, ?_⟩) (by assumption) ?_
      rotate_left
      · intro w hSw; (try dsimp only at hSw); go_simp; (try with_reducible rfl)
      try simp only [Act.put]
      refine wpHT_one (i := 16) (by kernel_rfl) rfl (by decide) (fun K hK => ?_)
      go_simp
      refine hK.out _ _ ?_ (fun hHeld => ?_)
      · exact ⟨cell_alloc_keep g0, cell_alloc_keep g1, cell_alloc_keep gd⟩
      clear hK K
      try simp only [Act.put, List.setIfInBounds_toArray, List.set_cons_zero, List.set_cons_succ]
      refine wpHT_done (by kernel_rfl) ?_
      simp only [List.drop_succ_cons, List.drop_zero]
      clear hHeld
      have hown3 : (w2.alloc (.cells #[.slice a2 c0.dt.length cap2, .int .i64 (c0.sf : Nat)] 76)).ownsMap Try.prog 9 ptrE w.heap.size L'.length (mapOf L') := ownsMap_block HCP1.out.fm.hm ((HB2.out.alloc HB2.out.size _).block _ HCP1.out.fm.hm.lt)
      have HO3 := Lib.hid hown3
      clear hown3 g0 g1 gd
      go_wp2_with (at_mapUpdate; refine wpList_mapUpdate_own _ rfl _ _ _ 69 rfl 9 73 strKeyed Try.underlying69 ptrE w.heap.size L'.length (mapOf L') rfl HO3.out (by unfold maxLen; omega) _ _ (.string nm) rfl rfl (keyS nm (by unfold maxLen; omega)) (fileLit w2.heap.size) [] rfl ?_; intro w4 hown4 hgrow4)
      have hbm : Hid (w.heap.size < w1.heap.size) := HCP1.out.fm.hm.lt
      have hdl : delC nm L' = L' := delC_none (by
        unfold getC
        rw [List.find?_eq_none]
        intro y hy
        have h1 : y.f ∈ L'.map Cel.f := List.mem_map_of_mem hy
        rw [HFI.out] at h1
        have h2 := (List.mem_filter.1 h1).2
        intro e
        have e' : y.nm = nm := by simpa using e
        have h3 : left (.string y.nm) = false := by simpa [Cel.f] using h2
        rw [e', HLK.out] at h3; cases h3)
      rw [show (mapOf L').put (.string nm) (fileLit w2.heap.size) = mapOf (insC ⟨nm, c0.dt, c0.sf, w2.heap.size, .slice a2 c0.dt.length cap2⟩ (delC nm L')) from mapOf_put L' ⟨nm, c0.dt, c0.sf, w2.heap.size, .slice a2 c0.dt.length cap2⟩, hdl] at hown4
      have hf4 : Fr (fun k => k = w.heap.size) w1 w4 := ((Fr.of_new HB2.out).alloc _).grown hgrow4 (fun k _ h => (Option.some.inj h).symm)
      have hsz2 := HB2.out.size
      have hbm' := hbm.out
      have hcp := HCP1.out.put (c := ⟨nm, c0.dt, c0.sf, w2.heap.size, .slice a2 c0.dt.length cap2⟩) hf4 (Nat.le_refl _) ⟨_, hown4⟩
        ((hgrow4.block w2.heap.size (by simp) (fun e => by have := Option.some.inj e; omega)).trans (heap_alloc_new w2 _))
        ((OwnC.of_own HO2.out).block fun k hk => (hgrow4.block k (by have := World.ownsRow.lt HO2.out k hk; simp; omega) (fun e => by have := Option.some.inj e; have := HN2.out k hk; omega)).trans (((Below.refl _ w2).alloc (Nat.le_refl _) _).block k (World.ownsRow.lt HO2.out k hk).2))
        hsz2 HN2.out
      have hrg4 := ranges_fr HRG1.out hf4 (fun e => by have := HD.out.blocks.2.1; omega) (by omega)
      have hfi : (insC (⟨nm, c0.dt, c0.sf, w2.heap.size, .slice a2 c0.dt.length cap2⟩ : Cel) L').map Cel.f = s.fs.filter fun f => !((fun z : Lit => left z && !z.sameKey (.string nm)) (.string f.nm)) := by
        rw [insC_f, HFI.out]
        have hc0 : (⟨nm, c0.dt, c0.sf, w2.heap.size, .slice a2 c0.dt.length cap2⟩ : Cel).f = c0.f := by simp [Cel.f, HCN.out]
        rw [hc0]
        have := filt_step HOK.out.srt HFM.out (left := fun n => left (.string n)) (by show left (.string c0.nm) = true; rw [HCN.out]; exact HLK.out)
        rw [this]
        congr 1
        funext g
        show _ = !(left (.string g.nm) && !(g.nm == nm))
        rw [show c0.f.nm = nm from HCN.out]
      have HCP4 := Lib.hid hcp
      have HRG4 := Lib.hid hrg4
      have HFI4 := Lib.hid hfi
      clear hown4 hgrow4 hdl hf4 hsz2 hbm' hcp hrg4 hfi
      (try simp only [Act.put])
      go_roundw
      case rel => exact ⟨_, cnt1, _, HRG4.out, HCP4.out, HFI4.out⟩
      case measure => rw [HRG4.out.left_eq, HRG.out.left_eq]; exact HLT.out
end Go.Proofs.Ytkinhilkmjfjhaa
