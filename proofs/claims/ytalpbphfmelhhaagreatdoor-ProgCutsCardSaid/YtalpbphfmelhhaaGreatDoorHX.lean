/-
  A write in its place (plain): what raceref9.put does to a sorted list.
  A write in its place (raceref9.put).
  The document's stack in memory: two values swapped in their row (raceref9.Run).
-/
import Derived.Test.YtalpbphfmelhhaaGreatDoorHJ
import Derived.Laws.OwnMore
import Derived.Deep.RegionHeld3
/-! ### A write in its place (plain): what raceref9.put does to a sorted list. -/
namespace Go.Proofs.YtalpbphfmelhhaaGreatDoor
open Go.RowKit Go.Maps Go.Sort
set_option maxRecDepth 100000
variable {α : Type}
/-- put, as a walk over the list: dn tells that the write is out. -/
def ptG (p : List UInt8 × α) : List (List UInt8 × α) → Bool → List (List UInt8 × α)
  | [], dn => if dn then [] else [p]
  | q :: r, dn => if q.1 == p.1 then p :: ptG p r true else if !dn && bB p.1 q.1 then p :: q :: ptG p r true else q :: ptG p r dn
end Go.Proofs.YtalpbphfmelhhaaGreatDoor

/-! ### A write in its place (raceref9.put). -/
namespace Go.Proofs.YtalpbphfmelhhaaGreatDoor
open Go.RowKit Go.Maps Go.Sort
set_option maxRecDepth 100000
attribute [local go_sem] bs_size bs_get bs_toList frombits tobits run_store_float
theorem RdE.at4 {w : World} {a : Option Addr} {n cap : Nat} {l : List (List UInt8 × Vl)} (h : RdE wrCells 4 w a n cap l) {i : Nat} {q : List UInt8 × Vl} (hi : l[i]? = some q) : ∃ b off, a = some ⟨b, off, none⟩ ∧ w.cell? ⟨b, off + i * 4, none⟩ = some (.string (bs q.1)) ∧
    w.cell? ⟨b, off + i * 4 + 1, none⟩ = some (.int .i64 q.2.k) ∧ w.cell? ⟨b, off + i * 4 + 2, none⟩ = some (.float .f64 (fb q.2.x)) ∧ w.cell? ⟨b, off + i * 4 + 3, none⟩ = some (.string (bs q.2.s)) := by
  obtain ⟨b, off, ha, hc⟩ := h.at wrCells4 hi (by decide)
  exact ⟨b, off, ha, hc 0 _ rfl, hc 1 _ rfl, hc 2 _ rfl, hc 3 _ rfl⟩
abbrev boxW (w : World) (p : List UInt8 × Vl) : World := w.alloc (.cells #[.string (bs p.1), .int .i64 p.2.k, .float .f64 (fb p.2.x), .string (bs p.2.s)] 54)
end Go.Proofs.YtalpbphfmelhhaaGreatDoor

/-! ### The document's stack in memory: two values swapped in their row (raceref9.Run). -/
namespace Go.Proofs.YtalpbphfmelhhaaGreatDoor
open Go.RowKit Go.Maps Go.Sort
set_option maxRecDepth 100000
def OwnVl (w : World) (base : Nat) (v : Value) (l : List Vl) : Prop := w.ownsRow base 48 3 v l.length (flatE vlCells l)
theorem OwnVl.nil (w : World) (base : Nat) : OwnVl w base (.slice none 0 0) [] := World.ownsRow_nil _ _ _ _
/-- The document's run, while it goes. -/
structure S9 (B : Nat) (r : RS) (vo vs : Value) (w0 W : World) : Prop where
  st : OwnVl W B vs r.st.reverse
  out : OwnW W B vo r.wr
  srt : SrtG r.wr
  bl : Below B w0 W
  sz : B ≤ W.heap.size
section
variable {B : Nat} {r : RS} {vo vs : Value} {w0 W W' : World}
theorem S9.below (h : S9 B r vo vs w0 W) (hb : Below W.heap.size W W') : S9 B r vo vs w0 W' :=
  ⟨ownsRow_keep h.st fun k hk => hb.block k (World.ownsRow.lt h.st k hk).2, ownsRow_keep h.out fun k hk => hb.block k (World.ownsRow.lt h.out k hk).2, h.srt, h.bl.trans (hb.mono h.sz), Nat.le_trans h.sz hb.size⟩
theorem S9.apart (h : S9 B r vo vs w0 W) : ∀ k, vo.ownBlock = some k → vs.ownBlock ≠ some k := fun k hk e => by
  obtain ⟨c1, h1⟩ := own_isRow h.out hk
  obtain ⟨c2, h2⟩ := own_isRow h.st e
  rw [h1] at h2
  simp at h2
/-- The stack turned. -/
theorem S9.turn (h : S9 B r vo vs w0 W) {st' : List Vl} {vs' : Value} (ho : OwnVl W' B vs' st'.reverse) (hg : W.grownBy W' vs.ownBlock) : S9 B ⟨st', r.wr⟩ vo vs' w0 W' :=
  ⟨ho, ownsRow_keep h.out fun k hk => hg.block k (World.ownsRow.lt h.out k hk).2 (fun e => h.apart k hk e.symm), h.srt, h.bl.trans ((Below.refl B W).grown hg h.sz fun k hk => (World.ownsRow.lt h.st k hk).1), Nat.le_trans h.sz hg.size⟩
/-- A value more. -/
theorem S9.push (h : S9 B r vo vs w0 W) (x : Vl) {v5 : Value} (ho : W'.ownsRow B 48 3 v5 (r.st.reverse.length + 1) (flatE vlCells r.st.reverse ++ vlCells x)) (hg : W.grownBy W' vs.ownBlock) : S9 B ⟨x :: r.st, r.wr⟩ vo v5 w0 W' := by
  refine h.turn ?_ hg
  show World.ownsRow _ _ _ _ _ _ _
  rw [List.reverse_cons, List.length_append, flatE_snoc]
  exact ho
theorem S9.put (h : S9 B r vo vs w0 W) (p : List UInt8 × Vl) {v' : Value} (ho : OwnW W' W.heap.size v' (putG p r.wr)) (hb : Below W.heap.size W W') : S9 B ⟨r.st, putG p r.wr⟩ v' vs w0 W' := by
  have h2 := h.below hb
  exact ⟨h2.st, ownsRow_mono ho h.sz, h.srt.put, h2.bl, h2.sz⟩
theorem S9.wr (h : S9 B r vo vs w0 W) : ∃ a cap, vo = .slice a r.wr.length cap ∧ RdE wrCells 4 W a r.wr.length cap r.wr := by
  obtain ⟨a, cap, hv, hr⟩ := Rd.of_own h.out
  exact ⟨a, cap, hv, rfl, hr⟩
/-- The stack's slice, its top, what is beneath. -/
theorem S9.top (h : S9 B r vo vs w0 W) {b : Vl} {t : List Vl} (hr : r.st = b :: t) : ∃ g cap, vs = .slice (some ⟨g, 0, none⟩) (t.length + 1) cap ∧ t.length + 1 ≤ cap ∧ cap ≤ maxLen ∧
    W.cell? ⟨g, t.length * 3, none⟩ = some (.int .i64 b.k) ∧ W.cell? ⟨g, t.length * 3 + 1, none⟩ = some (.float .f64 (fb b.x)) ∧ W.cell? ⟨g, t.length * 3 + 2, none⟩ = some (.string (bs b.s)) ∧
    S9 B ⟨t, r.wr⟩ vo (.slice (some ⟨g, 0, none⟩) t.length cap) w0 W := by
  have hl : r.st.reverse.length = t.length + 1 := by rw [hr]; simp
  obtain ⟨g, cap, hv, hc, hm, ho⟩ := own_cut h.st t.length (by omega) (by omega)
  rw [hl] at hv hc
  obtain ⟨ad, cap', hv', hrd⟩ := Rd.of_own h.st
  have hrE : RdE vlCells 3 W ad r.st.reverse.length cap' r.st.reverse := ⟨rfl, hrd⟩
  obtain ⟨b', off, hb, hcl⟩ := hrE.at vlCells3 (i := t.length) (x := b) (by rw [hr]; simp) (by decide)
  rw [hv] at hv'
  injection hv' with i1 i2 i3
  rw [← i1] at hb
  injection hb with hb
  injection hb with i4 i5
  subst i4 i5
  have d0 := hcl 0 _ rfl
  have d1 := hcl 1 _ rfl
  have d2 := hcl 2 _ rfl
  simp only [Nat.zero_add, Nat.add_zero] at d0 d1 d2
  refine ⟨g, cap, hv, hc, hm, d0, d1, d2, ?_, h.out, h.srt, h.bl, h.sz⟩
  show World.ownsRow _ _ _ _ _ _ _
  have e : flatE vlCells t.reverse = (flatE vlCells r.st.reverse).take (t.length * 3) := by
    rw [flatE_take vlCells3, hr, List.reverse_cons, List.take_left' (by simp)]
  rw [List.length_reverse, e]
  exact ho
end
/-! ### steps, code by code -/
section
variable {sn : List SnP} {o : OpP} {r : RS} {a b : Vl} {t : List Vl}
end
/-! ### three cells stored in a row that is owned -/
theorem there_row {w : World} {b n : Nat} {c : Array Value} {t : TypeId} (h : w.heap[b]? = some (.cells c t (0, 0))) (hn : c.size = n) : w.there b 0 n := fun j hj => by
  rw [Nat.zero_add]
  refine ⟨?_, frozen_of_row _ b j c t h⟩
  rw [cell_of_row _ b j c t (0, 0) h]
  simp; omega
theorem st3o {X : World} {b o : Nat} (h : X.there b o 3) (x y : Value) : ∃ u0 u1 u2, X.cell? ⟨b, o, none⟩ = some u0 ∧ X.frozen? ⟨b, o, none⟩ = false ∧ (X.setCell ⟨b, o, none⟩ x).cell? ⟨b, o + 1, none⟩ = some u1 ∧ (X.setCell ⟨b, o, none⟩ x).frozen? ⟨b, o + 1, none⟩ = false ∧
    ((X.setCell ⟨b, o, none⟩ x).setCell ⟨b, o + 1, none⟩ y).cell? ⟨b, o + 2, none⟩ = some u2 ∧ ((X.setCell ⟨b, o, none⟩ x).setCell ⟨b, o + 1, none⟩ y).frozen? ⟨b, o + 2, none⟩ = false := by
  obtain ⟨u0, h0⟩ := Option.isSome_iff_exists.1 (h 0 (by decide)).1
  obtain ⟨u1, h1⟩ := Option.isSome_iff_exists.1 (h 1 (by decide)).1
  obtain ⟨u2, h2⟩ := Option.isSome_iff_exists.1 (h 2 (by decide)).1
  have f0 := (h 0 (by decide)).2
  have f1 := (h 1 (by decide)).2
  have f2 := (h 2 (by decide)).2
  simp only [Nat.add_zero] at h0 f0
  refine ⟨u0, u1, u2, h0, f0, ?_, ?_, ?_, ?_⟩
  · exact (World.cell?_setCells_out b [x] o X ⟨b, o + 1, none⟩ (by simp)).trans h1
  · exact (World.frozen?_setCells b [x] o X ⟨b, o + 1, none⟩).trans f1
  · exact (World.cell?_setCells_out b [x, y] o X ⟨b, o + 2, none⟩ (by simp)).trans h2
  · exact (World.frozen?_setCells b [x, y] o X ⟨b, o + 2, none⟩).trans f2
section
variable {sn : List SnP}
/-- What a run needs to begin. -/
structure Starts (p : List OpP) (sn : List SnP) : Prop where
  c : checkP p = 0
  m : missB sn (readsP p) = false
  b : badB sn (readsP p) = false
theorem Starts.e {p : List OpP} (h : Starts p sn) : runE p sn = (runGo sn p ⟨[], []⟩).2 := by
  unfold runE
  rw [if_neg (by rw [h.c]; simp), h.m, h.b]; rfl
theorem Starts.w {p : List OpP} (h : Starts p sn) : runW p sn = if (runGo sn p ⟨[], []⟩).2 ≠ 0 then [] else (runGo sn p ⟨[], []⟩).1.wr := by
  unfold runW
  rw [h.e]
/-- A value in its own block, behind a world. -/
def V4 (X : World) (v : Vl) (W : World) : Prop := W.heap[X.heap.size]? = some (.cells #[.int .i64 v.k, .float .f64 (fb v.x), .string (bs v.s)] 48 (0, 0)) ∧ Below X.heap.size X W
end
end Go.Proofs.YtalpbphfmelhhaaGreatDoor
