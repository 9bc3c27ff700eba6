/-
  The laws' operations in memory; Does. Written by a program (e15gen.py).
-/
import Derived.Test.YtjjcilinghgphaaE14
namespace Go.Proofs.Ytjjcilinghgphaa
open Go.RowKit Go.Maps Go.Sort
set_option maxRecDepth 100000
attribute [local go_sem] bs_size bs_toList

/-- What is done. -/
structure OpV where
  k : Int
  n : Int
  nm : List UInt8
  tn : List UInt8
  b : List UInt8
  p : List Int
def doesS (s : DS) (o : OpV) : DS × Int :=
  if o.k = 1 then createS s o.nm else if o.k = 2 then appendS s o.nm o.b else if o.k = 3 then syncS s o.nm else if o.k = 4 then cutS s o.nm o.n else if o.k = 5 then renameS s o.nm o.tn else if o.k = 6 then removeS s o.nm else
  if o.k = 7 then (armS s o.n, 0) else if o.k = 8 then (crashS s o.p, 0) else if o.k = 9 then (s, hasE s o.nm) else (s, 0)
def OpWf (o : OpV) : Prop := (-9223372036854775808 ≤ o.k ∧ o.k ≤ 9223372036854775807) ∧ (-9223372036854775808 ≤ o.n ∧ o.n ≤ 9223372036854775807) ∧ o.nm.length ≤ 9223372036854775807 ∧ o.tn.length ≤ 9223372036854775807
def opCells (o : OpV) (ab : Option Addr) (cb : Nat) (ap : Option Addr) (cp : Nat) : List Value := [.int .i64 o.k, .int .i64 o.n, .string (bs o.nm), .string (bs o.tn), .slice ab o.b.length cb, .slice ap o.p.length cp]
/-- An operation that reads. -/
def OpRd (w : World) (T : Nat → Prop) (o : OpV) (ab : Option Addr) (cb : Nat) (ap : Option Addr) (cp : Nat) : Prop :=
  OpWf o ∧ Rd8 w ab o.b.length cb o.b ∧ RdI w ap o.p.length cp o.p ∧ BlkIn ab o.b.length T ∧ BlkIn ap o.p.length T
theorem OpRd.keep {S T : Nat → Prop} {w w' : World} {o : OpV} {ab : Option Addr} {cb : Nat} {ap : Option Addr} {cp : Nat} (h : OpRd w T o ab cb ap cp) (hf : Fr S w w') (hn : ∀ b, T b → ¬ S b) : OpRd w' T o ab cb ap cp :=
  ⟨h.1, h.2.1.keep0 hf fun h0 b hb => hn b (h.2.2.2.1 h0 b hb), h.2.2.1.keep hf fun h0 b hb => hn b (h.2.2.2.2 h0 b hb), h.2.2.2⟩
theorem OpRd.below {T : Nat → Prop} {w w' : World} {o : OpV} {ab : Option Addr} {cb : Nat} {ap : Option Addr} {cp : Nat} (h : OpRd w T o ab cb ap cp) (hb : Below w.heap.size w w') : OpRd w' T o ab cb ap cp :=
  ⟨h.1, h.2.1.below hb, h.2.2.1.below hb, h.2.2.2⟩
/-- A list of operations that reads. -/
def RdOps (w : World) (T : Nat → Prop) (a : Option Addr) (n cap : Nat) (os : List OpV) : Prop :=
  n = os.length ∧ BlkIn a n T ∧ ∃ xs, Rd w a n cap 6 xs ∧ ∀ (i : Nat) (o : OpV), os[i]? = some o → ∃ ab cb ap cp, (∀ (j : Nat) (u : Value), (opCells o ab cb ap cp)[j]? = some u → xs[i * 6 + j]? = some u) ∧ OpRd w T o ab cb ap cp
theorem RdOps.keep {S T : Nat → Prop} {w w' : World} {a : Option Addr} {n cap : Nat} {os : List OpV} (h : RdOps w T a n cap os) (hf : Fr S w w') (hn : ∀ b, T b → ¬ S b) : RdOps w' T a n cap os := by
  obtain ⟨h1, h2, xs, h3, h4⟩ := h
  refine ⟨h1, h2, xs, h3.keep0 hf fun h0 b hb => hn b (h2 h0 b hb), fun i o ho => ?_⟩
  obtain ⟨ab, cb, ap, cp, hc, hr⟩ := h4 i o ho
  exact ⟨ab, cb, ap, cp, hc, hr.keep hf hn⟩
theorem RdOps.below {T : Nat → Prop} {w w' : World} {a : Option Addr} {n cap : Nat} {os : List OpV} (h : RdOps w T a n cap os) (hb : Below w.heap.size w w') : RdOps w' T a n cap os := by
  obtain ⟨h1, h2, xs, h3, h4⟩ := h
  refine ⟨h1, h2, xs, h3.below hb, fun i o ho => ?_⟩
  obtain ⟨ab, cb, ap, cp, hc, hr⟩ := h4 i o ho
  exact ⟨ab, cb, ap, cp, hc, hr.below hb⟩
theorem RdOps.at {w : World} {T : Nat → Prop} {a : Option Addr} {n cap : Nat} {os : List OpV} (h : RdOps w T a n cap os) {k : Nat} {o : OpV} (ho : os[k]? = some o) :
    ∃ b off ab cb ap cp, a = some ⟨b, off, none⟩ ∧ OpRd w T o ab cb ap cp ∧ w.cell? ⟨b, off + k * 6, none⟩ = some (.int .i64 o.k) ∧ w.cell? ⟨b, off + k * 6 + 1, none⟩ = some (.int .i64 o.n) ∧ w.cell? ⟨b, off + k * 6 + 2, none⟩ = some (.string (bs o.nm)) ∧
      w.cell? ⟨b, off + k * 6 + 3, none⟩ = some (.string (bs o.tn)) ∧ w.cell? ⟨b, off + k * 6 + 4, none⟩ = some (.slice ab o.b.length cb) ∧ w.cell? ⟨b, off + k * 6 + 5, none⟩ = some (.slice ap o.p.length cp) := by
  obtain ⟨rfl, h2, xs, h3, h4⟩ := h
  have hk : k < os.length := (List.getElem?_eq_some_iff.1 ho).1
  obtain ⟨ab, cb, ap, cp, hc, hr⟩ := h4 k o ho
  obtain ⟨b, off, rfl, _, hcell⟩ := h3.at (by omega)
  refine ⟨b, off, ab, cb, ap, cp, rfl, hr, hcell _ _ (hc 0 _ rfl), ?_, ?_, ?_, ?_, ?_⟩
  · rw [Nat.add_assoc]; exact hcell _ _ (hc 1 _ rfl)
  · rw [Nat.add_assoc]; exact hcell _ _ (hc 2 _ rfl)
  · rw [Nat.add_assoc]; exact hcell _ _ (hc 3 _ rfl)
  · rw [Nat.add_assoc]; exact hcell _ _ (hc 4 _ rfl)
  · rw [Nat.add_assoc]; exact hcell _ _ (hc 5 _ rfl)

/-! ### bytes that are written over -/
/-- n bytes that may be written. -/
def WrB (w : World) (a : Option Addr) (n : Nat) : Prop := n = 0 ∨ ∃ r cur, a = some ⟨r, 0, none⟩ ∧ w.heap[r]? = some (.cells cur 5 (0, 0)) ∧ n ≤ cur.size
theorem WrB.of_own {w : World} {base : Nat} {a : Option Addr} {n cap : Nat} {l : List UInt8} (h : Own8 w base 5 (.slice a n cap) l) (hn : n = l.length) : WrB w a n := by
  rcases h.2 with ⟨h1, h2⟩ | ⟨g, cap', cur, hv, hb, hg, hnc, hcm, hcs, ht⟩
  · exact .inl (by rw [hn, h2])
  · simp at hv
    obtain ⟨rfl, _, rfl⟩ := hv
    exact .inr ⟨g, cur, rfl, hg, by omega⟩
theorem WrB.keep {S : Nat → Prop} {w w' : World} {a : Option Addr} {n : Nat} (h : WrB w a n) (hf : Fr S w w') (hn : ∀ b, blk a = some b → ¬ S b) : WrB w' a n := by
  rcases h with h | ⟨r, cur, rfl, hg, hc⟩
  · exact .inl h
  · exact .inr ⟨r, cur, rfl, (hf.block r (Array.getElem?_eq_some_iff.1 hg).1 (hn r rfl)).trans hg, hc⟩
theorem WrB.at {w : World} {a : Option Addr} {n k : Nat} (h : WrB w a n) (hk : k < n) : ∃ r u, a = some ⟨r, 0, none⟩ ∧ w.cell? ⟨r, k, none⟩ = some u ∧ w.frozen? ⟨r, k, none⟩ = false ∧ ∀ v, WrB (w.setCell ⟨r, k, none⟩ v) a n := by
  rcases h with h | ⟨r, cur, rfl, hg, hc⟩
  · omega
  · have hu : cur[k]? = some cur[k] := Array.getElem?_eq_getElem (by omega)
    refine ⟨r, cur[k], rfl, by rw [cell_of_row w r k _ _ _ hg]; exact hu, frozen_of_row w r k _ _ hg, fun v => .inr ⟨r, cur.setIfInBounds k v, rfl, row_set hg rfl, by simpa using hc⟩⟩

/-- A disk behind a deed and behind writes to a block beside it. -/
theorem Done.beside {B : Int} {w w1 w2 w3 : World} {d : Nat} {S R : Nat → Prop} {s : DS} (h01 : Below w.heap.size w w1) (h : Done B w1 d S s w2) (hf : Fr R w2 w3) (hS : ∀ k, S k → k < w.heap.size) (hR : ∀ k, R k → w.heap.size ≤ k ∧ k < w1.heap.size) : Done B w d S s w3 := by
  obtain ⟨h1, h2⟩ := h
  have e1 := h01.size
  have e2 := h2.size
  have e3 := hf.size
  refine ⟨(h1.keep hf fun k hk hr => ?_).mono (Int.le_refl _) (fun k hk => ?_) (fun k hk => ?_), ?_⟩
  · have := hR k hr
    rcases hk with hk | hk
    · have := hS k hk; omega
    · omega
  · rcases hk with hk | hk
    · exact .inl hk
    · exact .inr ⟨by omega, by omega⟩
  · rcases hk with hk | hk
    · have := hS k hk; omega
    · exact hk.2
  · have a1 : Fr S w w2 := (Fr.of_new h01).trans h2
    exact a1.trans' hf (fun _ _ h => h) (fun k hk h => by have := (hR k h).1; omega)
theorem Done.mono1 {B : Int} {w w' : World} {d : Nat} {S : Nat → Prop} {s : DS} (h : Done B w d S s w') : Done (B + 1) w d S s w' := ⟨h.1.mono (by omega) (fun _ h => h) (fun k hk => h.1.lt k hk), h.2⟩

abbrev opV (o : OpV) (ab : Option Addr) (cb : Nat) (ap : Option Addr) (cp : Nat) : Value := .agg #[.int .i64 o.k, .int .i64 o.n, .string (bs o.nm), .string (bs o.tn), .slice ab o.b.length cb, .slice ap o.p.length cp]

end Go.Proofs.Ytjjcilinghgphaa
