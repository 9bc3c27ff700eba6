/-
 The document's log in memory: its own block, its numbers, its records; how it is turned.
-/
import Derived.Test.YtjjcilinghgphaaGreatVD
import Derived.Test.YtjjcilinghgphaaGreatEX
namespace Go.Proofs.YtjjcilinghgphaaGreat
open Go.RowKit Go.Maps
set_option maxRecDepth 100000

theorem SIntU : STy Tryz.prog 46 3 (.int .i64 0) 1 8 := ⟨Tryz.underlying46, info_parts (by kernel_rfl), rfl, by decide⟩
def encN (n : Nat) : Value := .int .i64 (n : Int)
structure RgM (w : World) (l c : Nat) (dir : List UInt8) (room : Int) (sf : Nat) (nv av : Value) (fs : List Nat) (us : List Value) (rs : List (List UInt8)) : Prop where
 hd : w.heap[l]? = some (.cells #[.pointer (some ⟨c, 0, none⟩), .string (bs dir), .int .i64 room, nv, av, .int .i64 (sf : Nat)] 102 (0, 0))
 hn : OwnO w 3 nv fs.length (fs.map encN)
 ha : OwnO w 24 av rs.length us
 each : RecsAt w us rs
structure CovR (S : Nat → Prop) (l : Nat) (nv av : Value) (us : List Value) : Prop where
 cl : S l
 cn : ∀ k, nv.ownBlock = some k → S k
 ca : ∀ k, av.ownBlock = some k → S k
 cu : ∀ u ∈ us, ∀ k, u.ownBlock = some k → S k
def RgS (w : World) (l c : Nat) (S : Nat → Prop) (dir : List UInt8) (room : Int) (sf : Nat) (fs : List Nat) (rs : List (List UInt8)) : Prop :=
 ∃ nv av us, RgM w l c dir room sf nv av fs us rs ∧ CovR S l nv av us ∧ ∀ k, S k → k < w.heap.size
section
variable {w w' Y w5 : World} {l c : Nat} {dir : List UInt8} {room : Int} {sf : Nat} {nv av : Value} {fs : List Nat} {us vs : List Value} {rs ps : List (List UInt8)} {S S' : Nat → Prop}
theorem RgM.cells (h : RgM w l c dir room sf nv av fs us rs) : w.cell? ⟨l, 0, none⟩ = some (.pointer (some ⟨c, 0, none⟩)) ∧ w.cell? ⟨l, 1, none⟩ = some (.string (bs dir)) ∧ w.cell? ⟨l, 2, none⟩ = some (.int .i64 room) ∧ w.cell? ⟨l, 3, none⟩ = some nv ∧ w.cell? ⟨l, 4, none⟩ = some av ∧ w.cell? ⟨l, 5, none⟩ = some (.int .i64 (sf : Nat)) ∧
 w.frozen? ⟨l, 3, none⟩ = false ∧ w.frozen? ⟨l, 4, none⟩ = false ∧ w.frozen? ⟨l, 5, none⟩ = false :=
 ⟨cell_of_row w l 0 _ _ _ h.hd, cell_of_row w l 1 _ _ _ h.hd, cell_of_row w l 2 _ _ _ h.hd, cell_of_row w l 3 _ _ _ h.hd, cell_of_row w l 4 _ _ _ h.hd, cell_of_row w l 5 _ _ _ h.hd, frozen_of_row w l 3 _ _ h.hd, frozen_of_row w l 4 _ _ h.hd, frozen_of_row w l 5 _ _ h.hd⟩
theorem RgM.blocks (h : RgM w l c dir room sf nv av fs us rs) : l < w.heap.size ∧ (∀ k, nv.ownBlock = some k → k < w.heap.size) ∧ (∀ k, av.ownBlock = some k → k < w.heap.size) ∧ ∀ u ∈ us, ∀ k, u.ownBlock = some k → k < w.heap.size :=
 ⟨(Array.getElem?_eq_some_iff.1 h.hd).1, fun k hk => (h.hn.lt k hk).1, fun k hk => (h.ha.lt k hk).1, fun u hu k hk => (h.each.lt u hu k hk).1⟩
theorem RgM.apart (h : RgM w l c dir room sf nv av fs us rs) : (∀ k, nv.ownBlock = some k → k ≠ l ∧ av.ownBlock ≠ some k) ∧ (∀ k, av.ownBlock = some k → k ≠ l ∧ nv.ownBlock ≠ some k) ∧ ∀ u ∈ us, ∀ k, u.ownBlock = some k → k ≠ l ∧ nv.ownBlock ≠ some k ∧ av.ownBlock ≠ some k := by
 have hd := h.hd
 have hN : ∀ k, nv.ownBlock = some k → ∃ cs, w.heap[k]? = some (.cells cs 3 (0, 0)) := fun k hk => (h.hn.lt k hk).2
 have hA : ∀ k, av.ownBlock = some k → ∃ cs, w.heap[k]? = some (.cells cs 24 (0, 0)) := fun k hk => (h.ha.lt k hk).2
 refine ⟨fun k hk => ?_, fun k hk => ?_, fun u hu k hk => ?_⟩
 · obtain ⟨cs, hcs⟩ := hN k hk
   refine ⟨block_ne hcs hd (by decide), fun e => ?_⟩
   obtain ⟨cs', hcs'⟩ := hA k e
   exact block_ne hcs hcs' (by decide) rfl
 · obtain ⟨cs, hcs⟩ := hA k hk
   refine ⟨block_ne hcs hd (by decide), fun e => ?_⟩
   obtain ⟨cs', hcs'⟩ := hN k e
   exact block_ne hcs hcs' (by decide) rfl
 · obtain ⟨cs, hcs⟩ := (h.each.lt u hu k hk).2
   refine ⟨block_ne hcs hd (by decide), fun e => ?_, fun e => ?_⟩
   · obtain ⟨cs', hcs'⟩ := hN k e
     exact block_ne hcs hcs' (by decide) rfl
   · obtain ⟨cs', hcs'⟩ := hA k e
     exact block_ne hcs hcs' (by decide) rfl
theorem RgM.keep (h : RgM w l c dir room sf nv av fs us rs) (h1 : w'.heap[l]? = w.heap[l]?) (h2 : ∀ k, nv.ownBlock = some k → w'.heap[k]? = w.heap[k]?) (h3 : ∀ k, av.ownBlock = some k → w'.heap[k]? = w.heap[k]?)
 (h4 : ∀ u ∈ us, ∀ k, u.ownBlock = some k → w'.heap[k]? = w.heap[k]?) : RgM w' l c dir room sf nv av fs us rs := ⟨h1.trans h.hd, h.hn.keep h2, h.ha.keep h3, h.each.keep h4⟩
theorem RgM.new (h : RgM w l c dir room sf nv av fs us rs) (hb : Below w.heap.size w w') : RgM w' l c dir room sf nv av fs us rs := by
 obtain ⟨b1, b2, b3, b4⟩ := h.blocks
 exact h.keep (hb.block l b1) (fun k hk => hb.block k (b2 k hk)) (fun k hk => hb.block k (b3 k hk)) fun u hu k hk => hb.block k (b4 u hu k hk)
theorem RgM.after (h : RgM w l c dir room sf nv av fs us rs) (hC : CovR S l nv av us) (hf : Fr S' w w') (hn : ∀ k, S k → ¬ S' k) : RgM w' l c dir room sf nv av fs us rs := by
 obtain ⟨b1, b2, b3, b4⟩ := h.blocks
 exact h.keep (hf.block l b1 (hn _ hC.cl)) (fun k hk => hf.block k (b2 k hk) (hn _ (hC.cn k hk))) (fun k hk => hf.block k (b3 k hk) (hn _ (hC.ca k hk))) fun u hu k hk => hf.block k (b4 u hu k hk) (hn _ (hC.cu u hu k hk))
theorem RgS.keep (h : RgS w l c S dir room sf fs rs) (hf : Fr S' w w') (hn : ∀ k, S k → ¬ S' k) : RgS w' l c S dir room sf fs rs := by
 obtain ⟨nv, av, us, hM, hC, hlt⟩ := h
 exact ⟨nv, av, us, hM.after hC hf hn, hC, fun k hk => Nat.lt_of_lt_of_le (hlt k hk) hf.size⟩
theorem RgS.below (h : RgS w l c S dir room sf fs rs) (hb : Below w.heap.size w w') : RgS w' l c S dir room sf fs rs := by
 obtain ⟨nv, av, us, hM, hC, hlt⟩ := h
 exact ⟨nv, av, us, hM.new hb, hC, fun k hk => Nat.lt_of_lt_of_le (hlt k hk) hb.size⟩
theorem RgS.lt (h : RgS w l c S dir room sf fs rs) : ∀ k, S k → k < w.heap.size := by
 obtain ⟨_, _, _, _, _, hlt⟩ := h
 exact hlt
theorem CovR.mono (h : CovR S l nv av us) (hs : ∀ k, S k → S' k) : CovR S' l nv av us := ⟨hs _ h.cl, fun k hk => hs k (h.cn k hk), fun k hk => hs k (h.ca k hk), fun u hu k hk => hs k (h.cu u hu k hk)⟩
theorem RgM.setSafe (h : RgM w l c dir room sf nv av fs us rs) (sf' : Nat) : RgM (w.setCell ⟨l, 5, none⟩ (.int .i64 (sf' : Nat))) l c dir room sf' nv av fs us rs := by
 have hf : Fr (fun k => k = l) w (w.setCell ⟨l, 5, none⟩ (.int .i64 (sf' : Nat))) := (Fr.refl (fun k => k = l) w).setCell (p := ⟨l, 5, none⟩) (fun _ => rfl) _
 obtain ⟨a1, a2, a3⟩ := h.apart
 obtain ⟨_, b2, b3, b4⟩ := h.blocks
 exact ⟨row_set h.hd rfl, h.hn.keep fun k hk => hf.block k (b2 k hk) (a1 k hk).1, h.ha.keep fun k hk => hf.block k (b3 k hk) (a2 k hk).1, h.each.keep fun u hu k hk => hf.block k (b4 u hu k hk) (a3 u hu k hk).1⟩
/-- The numbers' slice replaced. -/
theorem RgM.setN (h : RgM w l c dir room sf nv av fs us rs) {v : Value} {fs' : List Nat} (hn : OwnO w 3 v fs'.length (fs'.map encN)) : RgM (w.setCell ⟨l, 3, none⟩ v) l c dir room sf v av fs' us rs := by
 have hf : Fr (fun k => k = l) w (w.setCell ⟨l, 3, none⟩ v) := (Fr.refl (fun k => k = l) w).setCell (p := ⟨l, 3, none⟩) (fun _ => rfl) _
 obtain ⟨a1, a2, a3⟩ := h.apart
 obtain ⟨_, b2, b3, b4⟩ := h.blocks
 refine ⟨row_set h.hd rfl, hn.keep fun k hk => ?_, h.ha.keep fun k hk => hf.block k (b3 k hk) (a2 k hk).1, h.each.keep fun u hu k hk => hf.block k (b4 u hu k hk) (a3 u hu k hk).1⟩
 obtain ⟨hlt, cs, hcs⟩ := hn.lt k hk
 exact hf.block k hlt (block_ne hcs h.hd (by decide))
/-- The records' slice replaced. -/
theorem RgM.setA (h : RgM w l c dir room sf nv av fs us rs) {v : Value} {us' : List Value} {rs' : List (List UInt8)} (hn : OwnO w 24 v rs'.length us') (he : RecsAt w us' rs') : RgM (w.setCell ⟨l, 4, none⟩ v) l c dir room sf nv v fs us' rs' := by
 have hf : Fr (fun k => k = l) w (w.setCell ⟨l, 4, none⟩ v) := (Fr.refl (fun k => k = l) w).setCell (p := ⟨l, 4, none⟩) (fun _ => rfl) _
 obtain ⟨a1, a2, a3⟩ := h.apart
 obtain ⟨_, b2, b3, b4⟩ := h.blocks
 refine ⟨row_set h.hd rfl, h.hn.keep fun k hk => hf.block k (b2 k hk) (a1 k hk).1, hn.keep fun k hk => ?_, he.keep fun u hu k hk => ?_⟩
 · obtain ⟨hlt, cs, hcs⟩ := hn.lt k hk
   exact hf.block k hlt (block_ne hcs h.hd (by decide))
 · obtain ⟨hlt, cs, hcs⟩ := he.lt u hu k hk
   exact hf.block k hlt (block_ne hcs h.hd (by decide))
theorem RecsAt.append (h : RecsAt w us rs) (h2 : RecsAt w vs ps) : RecsAt w (us ++ vs) (rs ++ ps) := by
 refine ⟨by simp [h.1, h2.1], fun i x r hx hr => ?_⟩
 by_cases hi : i < us.length
 · rw [List.getElem?_append_left hi] at hx
   rw [List.getElem?_append_left (by rw [← h.1]; exact hi)] at hr
   exact h.2 i x r hx hr
 · rw [List.getElem?_append_right (by omega)] at hx
   rw [List.getElem?_append_right (by rw [← h.1]; omega), ← h.1] at hr
   exact h2.2 _ x r hx hr
theorem RecsAt.drop (h : RecsAt w us rs) (k : Nat) : RecsAt w (us.drop k) (rs.drop k) :=
 ⟨by simp [h.1], fun i u r hu hr => h.2 (k + i) u r (by rw [← List.getElem?_drop]; exact hu) (by rw [← List.getElem?_drop]; exact hr)⟩
/-- What an append to the numbers leaves: the log is as it was, beside the new slice. -/
theorem RgM.grownN (h : RgM w l c dir room sf nv av fs us rs) (hb : Below w.heap.size w Y) (hg : Y.grownBy w5 nv.ownBlock) (hn : OwnO w5 3 nv fs.length (fs.map encN) ∨ True) {v : Value} {fs' : List Nat} (ho : OwnO w5 3 v fs'.length (fs'.map encN)) :
 w5.cell? ⟨l, 3, none⟩ = some nv ∧ w5.frozen? ⟨l, 3, none⟩ = false ∧ RgM (w5.setCell ⟨l, 3, none⟩ v) l c dir room sf v av fs' us rs ∧ ∀ S, CovR S l nv av us → Fr S w (w5.setCell ⟨l, 3, none⟩ v) := by
 obtain ⟨b1, b2, b3, b4⟩ := h.blocks
 obtain ⟨a1, a2, a3⟩ := h.apart
 have hf5 : Fr (fun k => nv.ownBlock = some k) w w5 := (Fr.of_new hb).grown hg (fun k _ e => e)
 have hl5 : w5.heap[l]? = w.heap[l]? := hf5.block l b1 (fun e => (a1 l e).1 rfl)
 have hrow := hl5.trans h.hd
 refine ⟨cell_of_row w5 l 3 _ _ _ hrow, frozen_of_row w5 l 3 _ _ hrow, ?_, fun S hC => (hf5.mono fun k _ e => hC.cn k e).setCell (p := ⟨l, 3, none⟩) (fun _ => hC.cl) _⟩
 have hf : Fr (fun k => k = l) w5 (w5.setCell ⟨l, 3, none⟩ v) := (Fr.refl (fun k => k = l) w5).setCell (p := ⟨l, 3, none⟩) (fun _ => rfl) _
 have h5 := hf5.size
 refine ⟨row_set hrow rfl, ho.keep fun k hk => ?_, (h.ha.keep fun k hk => hf5.block k (b3 k hk) (a2 k hk).2).keep fun k hk => hf.block k (by have := b3 k hk; omega) (a2 k hk).1,
  (h.each.keep fun u hu k hk => hf5.block k (b4 u hu k hk) (a3 u hu k hk).2.1).keep fun u hu k hk => hf.block k (by have := b4 u hu k hk; omega) (a3 u hu k hk).1⟩
 obtain ⟨hlt, cs, hcs⟩ := ho.lt k hk
 exact hf.block k hlt (block_ne hcs hrow (by decide))
/-- What an append to the records leaves. -/
theorem RgM.grownA (h : RgM w l c dir room sf nv av fs us rs) (hb : Below w.heap.size w Y) (hg : Y.grownBy w5 av.ownBlock) {v : Value} (ho : OwnO w5 24 v (rs ++ ps).length (us ++ vs)) (hp : RecsAt w5 vs ps) :
 w5.cell? ⟨l, 4, none⟩ = some av ∧ w5.frozen? ⟨l, 4, none⟩ = false ∧ RgM (w5.setCell ⟨l, 4, none⟩ v) l c dir room sf nv v fs (us ++ vs) (rs ++ ps) ∧ ∀ S, CovR S l nv av us → Fr S w (w5.setCell ⟨l, 4, none⟩ v) := by
 obtain ⟨b1, b2, b3, b4⟩ := h.blocks
 obtain ⟨a1, a2, a3⟩ := h.apart
 have hf5 : Fr (fun k => av.ownBlock = some k) w w5 := (Fr.of_new hb).grown hg (fun k _ e => e)
 have hl5 : w5.heap[l]? = w.heap[l]? := hf5.block l b1 (fun e => (a2 l e).1 rfl)
 have hrow := hl5.trans h.hd
 refine ⟨cell_of_row w5 l 4 _ _ _ hrow, frozen_of_row w5 l 4 _ _ hrow, ?_, fun S hC => (hf5.mono fun k _ e => hC.ca k e).setCell (p := ⟨l, 4, none⟩) (fun _ => hC.cl) _⟩
 have hf : Fr (fun k => k = l) w5 (w5.setCell ⟨l, 4, none⟩ v) := (Fr.refl (fun k => k = l) w5).setCell (p := ⟨l, 4, none⟩) (fun _ => rfl) _
 have h5 := hf5.size
 have he5 : RecsAt w5 (us ++ vs) (rs ++ ps) := (h.each.keep fun u hu k hk => hf5.block k (b4 u hu k hk) (a3 u hu k hk).2.2).append hp
 refine ⟨row_set hrow rfl, (h.hn.keep fun k hk => hf5.block k (b2 k hk) (a1 k hk).2).keep fun k hk => hf.block k (by have := b2 k hk; omega) (a1 k hk).1, ho.keep fun k hk => ?_, he5.keep fun u hu k hk => ?_⟩
 · obtain ⟨hlt, cs, hcs⟩ := ho.lt k hk
   exact hf.block k hlt (block_ne hcs hrow (by decide))
 · obtain ⟨hlt, cs, hcs⟩ := he5.lt u hu k hk
   exact hf.block k hlt (block_ne hcs hrow (by decide))
end

/-- The document's log beside the document's disk, since a world w0 in which all of theirs lay within T. -/
structure RAt (w0 : World) (T : Nat → Prop) (c l : Nat) (Sd Sl : Nat → Prop) (s : DS) (dir : List UInt8) (room : Int) (sf : Nat) (fs : List Nat) (rs : List (List UInt8)) (w : World) : Prop where
 dk : Rf w c Sd s
 lg : RgS w l c Sl dir room sf fs rs
 dj : ∀ k, Sd k → ¬ Sl k
 sd : ∀ k, Sd k → Sx T w0 w k
 sl : ∀ k, Sl k → Sx T w0 w k
 fr : Fr T w0 w
 t0 : ∀ k, T k → k < w0.heap.size
def LG.nums (g : LG) : List Nat := g.segs.map Sg.f
def RWS (w : World) (c l : Nat) (T : Nat → Prop) (s : DS) (g : LG) : Prop :=
 ∃ Sd Sl, Rf w c Sd s ∧ RgS w l c Sl g.dir g.room g.sf g.nums g.all ∧ (∀ k, Sd k → ¬ Sl k) ∧ (∀ k, Sd k → T k) ∧ (∀ k, Sl k → T k) ∧ ∀ k, T k → k < w.heap.size
def RDone (w : World) (c : Nat) (T : Nat → Prop) (s : DS) (w' : World) : Prop := Rf w' c (Sx T w w') s ∧ Fr T w w'
def RLTold (w : World) (c l : Nat) (T : Nat → Prop) (r : LR) (x : Ending) (w' : World) : Prop := x = .returned (.int .i64 r.e) ∧ RWS w' c l (Sx T w w') r.s r.g ∧ Fr T w w'
section
variable {w0 w w' : World} {T T' Sd Sl Sl' : Nat → Prop} {c l : Nat} {s s1 : DS} {dir : List UInt8} {room : Int} {sf sf' : Nat} {fs fs' : List Nat} {rs rs' : List (List UInt8)} {g : LG}
theorem RWS.open (h : RWS w c l T s g) : ∃ Sd Sl, RAt w T c l Sd Sl s g.dir g.room g.sf g.nums g.all w := by
 obtain ⟨Sd, Sl, h1, h2, h3, h4, h5, h6⟩ := h
 exact ⟨Sd, Sl, h1, h2, h3, fun k hk => .inl (h4 k hk), fun k hk => .inl (h5 k hk), Fr.refl _ _, h6⟩
theorem RAt.fin (h : RAt w0 T c l Sd Sl s g.dir g.room g.sf g.nums g.all w) : RWS w c l (Sx T w0 w) s g ∧ Fr T w0 w :=
 ⟨⟨Sd, Sl, h.dk, h.lg, h.dj, h.sd, h.sl, fun k hk => hk.elim (fun e => Nat.lt_of_lt_of_le (h.t0 k e) h.fr.size) (fun e => e.2)⟩, h.fr⟩
theorem RAt.told (h : RAt w0 T c l Sd Sl s g.dir g.room g.sf g.nums g.all w) {e : Int} : RLTold w0 c l T ⟨s, g, e⟩ (.returned (.int .i64 e)) w := ⟨rfl, h.fin⟩
theorem RAt.lt (h : RAt w0 T c l Sd Sl s dir room sf fs rs w) : (∀ k, Sd k → k < w.heap.size) ∧ ∀ k, Sl k → k < w.heap.size := ⟨h.dk.lt, h.lg.lt⟩
theorem RAt.new (h : RAt w0 T c l Sd Sl s dir room sf fs rs w) (hb : Below w.heap.size w w') : RAt w0 T c l Sd Sl s dir room sf fs rs w' :=
 ⟨h.dk.below hb, h.lg.below hb, h.dj, fun k hk => (h.sd k hk).mono hb.size, fun k hk => (h.sl k hk).mono hb.size, h.fr.trans (Fr.of_new hb), h.t0⟩
theorem RAt.disk (h : RAt w0 T c l Sd Sl s dir room sf fs rs w) (k1 : Rf w' c (Sx Sd w w') s1) (k2 : Fr Sd w w') : RAt w0 T c l (Sx Sd w w') Sl s1 dir room sf fs rs w' := by
 have hl := h.lt
 have hs := h.fr.size
 have hw := k2.size
 refine ⟨k1, h.lg.keep k2 fun q hq hs => h.dj q hs hq, fun q hq hs => ?_, fun q hq => ?_, fun q hq => (h.sl q hq).mono hw, h.fr.trans' k2 (fun _ _ e => e) (fun q hq e => ?_), h.t0⟩
 · rcases hq with e | e
   · exact h.dj q e hs
   · have := hl.2 q hs; omega
 · rcases hq with e | e
   · exact (h.sd q e).mono hw
   · exact .inr ⟨by omega, e.2⟩
 · rcases h.sd q e with e | e
   · exact e
   · omega
theorem RAt.log (h : RAt w0 T c l Sd Sl s dir room sf fs rs w) (hg : RgS w' l c Sl' dir room sf' fs' rs') (hf : Fr Sl w w') (hx : ∀ k, Sl' k → Sx Sl w w' k) : RAt w0 T c l Sd Sl' s dir room sf' fs' rs' w' := by
 have hl := h.lt
 have hs := h.fr.size
 have hw := hf.size
 refine ⟨h.dk.keep hf fun q hq hs => h.dj q hq hs, hg, fun q hq hs => ?_, fun q hq => (h.sd q hq).mono hw, fun q hq => ?_, h.fr.trans' hf (fun _ _ e => e) (fun q hq e => ?_), h.t0⟩
 · rcases hx q hs with e | e
   · exact h.dj q hq e
   · have := hl.1 q hq; omega
 · rcases hx q hq with e | e
   · exact (h.sl q e).mono hw
   · exact .inr ⟨by omega, e.2⟩
 · rcases h.sl q e with e | e
   · exact e
   · omega
theorem RAt.done (h : RAt w0 T c l Sd Sl s dir room sf fs rs w) : RDone w0 c T s w :=
 ⟨h.dk.grow h.sd fun k hk => hk.elim (fun e => Nat.lt_of_lt_of_le (h.t0 k e) h.fr.size) (fun e => e.2), h.fr⟩
theorem RWS.rf (h : RWS w c l T s g) : Rf w c T s := by
 obtain ⟨Sd, Sl, q1, q2, q3, q4, q5, q6⟩ := h
 exact q1.grow q4 q6
theorem RWS.lt (h : RWS w c l T s g) : ∀ k, T k → k < w.heap.size := by
 obtain ⟨Sd, Sl, q1, q2, q3, q4, q5, q6⟩ := h
 exact q6
theorem RWS.new (h : RWS w c l T s g) (hb : Below w.heap.size w w') : RWS w' c l T s g := by
 obtain ⟨Sd, Sl, q1, q2, q3, q4, q5, q6⟩ := h
 exact ⟨Sd, Sl, q1.below hb, q2.below hb, q3, q4, q5, fun k hk => Nat.lt_of_lt_of_le (q6 k hk) hb.size⟩
theorem RWS.keep (h : RWS w c l T s g) (hf : Fr T' w w') (hn : ∀ k, T k → ¬ T' k) : RWS w' c l T s g := by
 obtain ⟨Sd, Sl, q1, q2, q3, q4, q5, q6⟩ := h
 exact ⟨Sd, Sl, q1.keep hf fun k hk => hn k (q4 k hk), q2.keep hf fun k hk => hn k (q5 k hk), q3, q4, q5, fun k hk => Nat.lt_of_lt_of_le (q6 k hk) hf.size⟩
/-- Two steps, one behind the other. -/
theorem RWS.trans {w1 w2 : World} (h1 : Fr T w w1) (h2 : RWS w2 c l (Sx (Sx T w w1) w1 w2) s g) (h3 : Fr (Sx T w w1) w1 w2) (ht : ∀ k, T k → k < w.heap.size) : RWS w2 c l (Sx T w w2) s g ∧ Fr T w w2 := by
 obtain ⟨Sd, Sl, q1, q2, q3, q4, q5, q6⟩ := h2
 have hs1 := h1.size
 have hs2 := h3.size
 have hx : ∀ k, Sx (Sx T w w1) w1 w2 k → Sx T w w2 k := fun k hk => by
  rcases hk with (e | e) | e
  · exact .inl e
  · exact .inr ⟨e.1, by omega⟩
  · exact .inr ⟨by omega, e.2⟩
 exact ⟨⟨Sd, Sl, q1, q2, q3, fun k hk => hx k (q4 k hk), fun k hk => hx k (q5 k hk), fun k hk => hk.elim (fun e => by have := ht k e; omega) (fun e => e.2)⟩, h1.trans' h3 (fun _ _ e => e) (fun k hk e => e.elim id (fun e => by omega))⟩
end
section
variable {B : Int} {s : DS} {n : List UInt8}
theorem DOk.sync (h : DOk B s) : DOk (B + 1) (syncS s n).1 := by
 refine h.errW _ _ fun _ he => ?_
 cases hf : getF n s.fs with
 | none => exfalso; unfold hasE at he; rw [hf] at he; cases he
 | some f => exact h.fall.upd (f := f) (by rw [fallS_fs]; exact hf) _ (fun _ => rfl) (Nat.le_refl _) (by rw [fallS_fs]; show f.dt.length + _ ≤ _; have := h.tot; omega)
theorem DOk.remove (h : DOk B s) : DOk (B + 1) (removeS s n).1 := h.errW _ _ fun _ _ => h.fall.del n
end
end Go.Proofs.YtjjcilinghgphaaGreat
