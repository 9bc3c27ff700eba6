/-
  Laws of this claim's own for the walk, over any program: a slice that reads as cells (Rd), one that the call owns (World.ownsRow), append, make, slicing. No Go text in sight.
-/
import Derived.Test.YtalpbphfmelhhaaGreatDoorTy
import Derived.Laws.CopyOwn
import Derived.Laws.AppendOwnNone
import Derived.Deep.QuietTactic
import Derived.BigQuiet
namespace Go.Proofs.YtalpbphfmelhhaaGreatDoor
open Go.RowKit

/-- The element type's row of the table. -/
structure STy (P : Program) (t e : TypeId) (z : Value) (size bytes : Nat) : Prop where
  ht : P.underlying t = some (.slice e)
  info : ∃ i, P.info? e = some i ∧ i.zero = some z ∧ i.size = size ∧ i.bytes = bytes
  zs : z.cells.size = size
  pos : 0 < size

/-- A slice reads as these cells ('size' cells an element). -/
def Rd (w : World) (a : Option Addr) (n cap size : Nat) (xs : List Value) : Prop :=
  n ≤ cap ∧ cap ≤ maxLen ∧ (a = none → cap = 0) ∧ xs.length = n * size ∧ ∀ j u, xs[j]? = some u → ∃ b off, a = some ⟨b, off, none⟩ ∧ w.cell? ⟨b, off + j, none⟩ = some u

theorem Rd.nil (w : World) (size : Nat) : Rd w none 0 0 size [] := ⟨Nat.le_refl _, Nat.zero_le _, fun _ => rfl, by simp, by simp⟩

theorem Rd.below {w w' : World} {a : Option Addr} {n cap size : Nat} {xs : List Value} (h : Rd w a n cap size xs) (hb : Below w.heap.size w w') : Rd w' a n cap size xs := by
  obtain ⟨h1, h2, h0, h3, h4⟩ := h
  refine ⟨h1, h2, h0, h3, fun j u hj => ?_⟩
  obtain ⟨b, off, ha, hc⟩ := h4 j u hj
  refine ⟨b, off, ha, ?_⟩
  have hlt := World.block_lt_of_cell? w _ hc
  rw [hb.cell (p := ⟨b, off + j, none⟩) hlt]; exact hc

/-- An address where there is an element. -/
theorem Rd.at {w : World} {a : Option Addr} {n cap size : Nat} {xs : List Value} (h : Rd w a n cap size xs) (hn : 0 < n * size) : ∃ b off, a = some ⟨b, off, none⟩ ∧ b < w.heap.size ∧ ∀ j u, xs[j]? = some u → w.cell? ⟨b, off + j, none⟩ = some u := by
  obtain ⟨h1, h2, _, h3, h4⟩ := h
  have h0 : ∃ u, xs[0]? = some u := ⟨xs[0]'(by omega), List.getElem?_eq_getElem (by omega)⟩
  obtain ⟨u, hu⟩ := h0
  obtain ⟨b, off, ha, hc⟩ := h4 0 u hu
  refine ⟨b, off, ha, World.block_lt_of_cell? w _ hc, fun j u hj => ?_⟩
  obtain ⟨b', off', ha', hc'⟩ := h4 j u hj
  rw [ha] at ha'
  simp at ha'
  rw [ha'.1, ha'.2]; exact hc'

theorem Rd.of_own {w : World} {base : Nat} {e : TypeId} {size : Nat} {v : Value} {n : Nat} {xs : List Value} (h : w.ownsRow base e size v n xs) : ∃ a cap, v = .slice a n cap ∧ Rd w a n cap size xs := by
  obtain ⟨h1, h2⟩ := h
  rcases h2 with ⟨rfl, rfl⟩ | ⟨g, cap, cur, rfl, hb, hg, hnc, hcm, hcs, ht⟩
  · have : xs = [] := List.eq_nil_of_length_eq_zero (by simpa using h1)
    subst this
    exact ⟨none, 0, rfl, Rd.nil _ _⟩
  · refine ⟨_, _, rfl, hnc, hcm, (fun h => by cases h), h1, fun j u hj => ⟨g, 0, rfl, ?_⟩⟩
    rw [Nat.zero_add, cell_of_row w g j cur e (0, 0) hg]
    rw [← ht, List.getElem?_take] at hj
    split at hj
    · simpa using hj
    · cases hj

theorem Addr.add_none (b off j : Nat) : (⟨b, off, none⟩ : Addr).add j = ⟨b, off + j, none⟩ := by
  unfold Addr.add; split <;> simp_all

/-- A slice of it. -/
theorem Rd.sub {w : World} {a : Option Addr} {n cap size : Nat} {xs : List Value} (h : Rd w a n cap size xs) (lo hi : Nat) (h1 : lo ≤ hi) (h2 : hi ≤ n) :
    Rd w (if cap = lo then a else a.map (·.add (lo * size))) (hi - lo) (cap - lo) size ((xs.drop (lo * size)).take ((hi - lo) * size)) := by
  obtain ⟨g1, g2, g0, g3, g4⟩ := h
  refine ⟨by omega, by omega, ?_, ?_, fun j u hj => ?_⟩
  · intro hn
    have : a = none := by
      split at hn
      · exact hn
      · simpa using hn
    have := g0 this; omega
  · rw [List.length_take, List.length_drop, g3, ← Nat.sub_mul]
    exact Nat.min_eq_left (Nat.mul_le_mul_right _ (by omega))
  · rw [List.getElem?_take] at hj
    split at hj
    · rename_i hlt
      rw [List.getElem?_drop] at hj
      obtain ⟨b, off, ha, hc⟩ := g4 _ u hj
      have hne : cap ≠ lo := by
        intro e
        have h0 : (hi - lo) * size = 0 := by rw [show hi - lo = 0 by omega]; simp
        omega
      rw [if_neg hne, ha]
      refine ⟨b, off + lo * size, ?_, ?_⟩
      · simp [Addr.add_none]
      · rw [Nat.add_assoc]; exact hc
    · cases hj

section
variable {P : Program} {t e : TypeId} {z : Value} {size bytes : Nat}

/-- The same as a fact for the walk, in every world. -/
theorem run_slice (S : STy P t e z size bytes) {w : World} {ad : Option Addr} {n cap : Nat} {xs : List Value} (hr : Rd w ad n cap size xs)
    (lo hi : Option Value) (l h : Nat) (hl : lo = none ∧ l = 0 ∨ lo = some (.int .i64 l)) (hh : hi = none ∧ h = n ∨ hi = some (.int .i64 h)) (h1 : l ≤ h) (h2 : h ≤ n) :
    ∃ ad' cap', (∀ w', (Instr.slice t (.slice ad n cap) lo hi none).run P w' = .ok (.slice ad' (h - l) cap') w') ∧ Rd w ad' (h - l) cap' size ((xs.drop (l * size)).take ((h - l) * size)) := by
  refine ⟨_, _, fun w' => ?_, hr.sub l h h1 h2⟩
  obtain ⟨i, hi0, hi1, hi2, hi3⟩ := S.info
  have hnc := hr.1
  have e2 : h ≤ cap := by omega
  rcases hl with ⟨rfl, rfl⟩ | rfl <;> rcases hh with ⟨rfl, rfl⟩ | rfl <;>
    simp [Instr.slice, run_underlying S.ht, Instr.sliceBounds, Instr.sliceBound, asIntOf, sizeOf, typeInfo, hi0, hi2, h1, e2]

/-- append onto a slice of the call's own, from whatever reads. -/
theorem wpList_app (S : STy P t e z size bytes) {w : World} {ops : Array Oper} {rest : List Oper} {o : Oper} {a : Act} {Q : Exit → Act → World → Prop}
    (hgd : o.guard = none) (s x : Operand) (ho : o.op = .call { callee := .builtin .append, args := #[s, x], argTypes := #[t, t] })
    (base : Nat) {v : Value} {n : Nat} {xs : List Value} (hs : a.eval s = v) (hown : w.ownsRow base e size v n xs)
    {ad : Option Addr} {m c : Nat} {news : List Value} (hx : a.eval x = .slice ad m c) (hr : Rd w ad m c size news) (h1 : ∀ u ∈ news, u.oneCell' = true)
    (hbytes : (n + m) * bytes ≤ 140737488355328) (h63 : n + m ≤ maxLen) (hbase : base ≤ w.heap.size)
    (hK0 : ∀ v' w', w'.ownsRow base e size v' (n + m) (xs ++ news) → Below base w w' → w.grownBy w' v.ownBlock → wpList P ops Q rest (a.put o.dst v') w') : wpList P ops Q (o :: rest) a w := by
  obtain ⟨i, hi0, hi1, hi2, hi3⟩ := S.info
  have hK : ∀ v' w', w'.ownsRow base e size v' (n + m) (xs ++ news) → w.grownBy w' v.ownBlock → wpList P ops Q rest (a.put o.dst v') w' := fun v' w' h1 h2 =>
    hK0 v' w' h1 ((Below.refl _ _).grown h2 hbase (fun k hk => (hown.lt k hk).1)) h2
  by_cases hm : m = 0
  · subst hm
    have hnil : news = [] := List.eq_nil_of_length_eq_zero (by simpa using hr.2.2.2.1)
    subst hnil
    cases ad with
    | none =>
      have hc : c = 0 := hr.2.2.1 rfl
      subst hc
      have hrun : ∀ ty, (Builtin.append_ #[t, t] ty #[v, .slice none 0 0]).run P w = .ok v w := fun ty =>
        run_append_owned_none (P := P) (w := w) base t ty e i size S.ht hi0 v n xs hown
      refine wpList_plain hgd fun K hK' => ?_
      have hk := hK' _ _ (hK v w (by simpa using hown) (World.grownBy.refl _ _))
      unfold Oper.wp
      simp [execOp, ho, resolve, invoke, builtin, hs, hx, hrun, Result.andThen]
      exact hk
    | some ad =>
      exact wpList_append_own w hgd s x t ho base e i z size bytes S.ht hi0 hi1 hi2 hi3 S.zs S.pos v n xs hs hown ad 0 c [] hx (by simp) (by simp) (by simp) h63 hbytes hbase
        fun v' w' h2 h3 _ => hK v' w' h2 h3
  · obtain ⟨b, off, rfl, hb, hcell⟩ := hr.at (Nat.mul_pos (by omega) S.pos)
    exact wpList_append_own w hgd s x t ho base e i z size bytes S.ht hi0 hi1 hi2 hi3 S.zs S.pos v n xs hs hown _ m c news hx hr.2.2.2.1
      (fun j u hj => by rw [Addr.add_none]; exact hcell j u hj) h1 h63 hbytes hbase fun v' w' h2 h3 _ => hK v' w' h2 h3

end

/-- A literal slice of one element that was just built. -/
theorem Rd.one (w : World) (x : Value) (e : TypeId) : Rd (w.alloc (.cells #[x] e)) (some ⟨w.heap.size, 0, none⟩) 1 1 1 [x] := by
  refine ⟨Nat.le_refl _, by decide, (fun h => by cases h), rfl, fun j u hj => ⟨w.heap.size, 0, rfl, ?_⟩⟩
  rw [Nat.zero_add, cell_of_row _ w.heap.size j #[x] e (0, 0) (heap_alloc_new w _)]
  simpa using hj
theorem Rd.lit (w : World) (xs : List Value) (n : Nat) (hn : xs.length = n) (hm : n ≤ maxLen) (e : TypeId) : Rd (w.alloc (.cells xs.toArray e)) (some ⟨w.heap.size, 0, none⟩) n n 1 xs := by
  refine ⟨Nat.le_refl _, hm, (fun h => by cases h), by omega, fun j u hj => ⟨w.heap.size, 0, rfl, ?_⟩⟩
  rw [Nat.zero_add, cell_of_row _ w.heap.size j xs.toArray e (0, 0) (heap_alloc_new w _)]
  simpa using hj

/-- A new variable, its zero cells under a name. -/
theorem wpList_var {P : Program} {w : World} {ops : Array Oper} {rest : List Oper} {o : Oper} {a : Act} {Q : Exit → Act → World → Prop}
    (hgd : o.guard = none) (ty : TypeId) (ho : o.op = .alloc ty) (cs : Array Value) (hz : (P.info? ty).bind (fun i => i.zero.map (·.cells)) = some cs)
    (hK : wpList P ops Q rest (a.put o.dst (.pointer (some ⟨w.heap.size, 0, none⟩))) (w.alloc (.cells cs ty))) : wpList P ops Q (o :: rest) a w := by
  refine wpList_plain hgd fun K hK' => ?_
  have hk := hK' _ _ hK
  obtain ⟨i, hi, hz⟩ := Option.bind_eq_some_iff.1 hz
  obtain ⟨z, hz1, rfl⟩ := Option.map_eq_some_iff.1 hz
  have hzv : (zeroValue ty).run P w = .ok z w := by
    unfold zeroValue typeInfo
    simp [hi]
    rw [hz1]; rfl
  unfold Oper.wp
  simp [execOp, ho, Instr.alloc, hzv, newVar, newRow]
  exact hk

/-! ### Bytes -/
def B8 (l : List UInt8) : List Value := l.map fun x => Value.int .u8 (n8 x)
theorem B8_length (l : List UInt8) : (B8 l).length = l.length := by simp [B8]
theorem B8_one (l : List UInt8) : ∀ u ∈ B8 l, u.oneCell' = true := by
  intro u hu; simp [B8] at hu; obtain ⟨x, _, rfl⟩ := hu; rfl
theorem B8_append (l m : List UInt8) : B8 (l ++ m) = B8 l ++ B8 m := by simp [B8]
theorem B8_sub (l : List UInt8) (lo k : Nat) : ((B8 l).drop (lo * 1)).take (k * 1) = B8 ((l.drop lo).take k) := by simp [B8]
theorem B8_get (l : List UInt8) (j : Nat) (h : j < l.length) : (B8 l)[j]? = some (.int .u8 (n8 (l.getD j 0))) := by
  simp [B8, List.getD, h]
/-- A slice of bytes reads as l. -/
def Rd8 (w : World) (a : Option Addr) (n cap : Nat) (l : List UInt8) : Prop := n = l.length ∧ Rd w a n cap 1 (B8 l)
/-- A slice of bytes of the call's own. -/
def Own8 (w : World) (base : Nat) (e : TypeId) (v : Value) (l : List UInt8) : Prop := w.ownsRow base e 1 v l.length (B8 l)

theorem Own8.mk {w : World} {base : Nat} {e : TypeId} {v : Value} {n : Nat} {xs : List Value} {l : List UInt8} (h : w.ownsRow base e 1 v n xs) (hn : n = l.length) (hx : xs = B8 l) : Own8 w base e v l := by
  subst hn hx; exact h
theorem Own8.nil (w : World) (base : Nat) (e : TypeId) : Own8 w base e (.slice none 0 0) [] := World.ownsRow_nil _ _ _ _
theorem Own8.alloc {w : World} {base : Nat} {e : TypeId} {v : Value} {l : List UInt8} (h : Own8 w base e v l) (o : Obj) : Own8 (w.alloc o) base e v l := World.ownsRow.alloc h o
theorem Own8.below {w w' : World} {base : Nat} {e : TypeId} {v : Value} {l : List UInt8} (h : Own8 w base e v l) {B : Nat} (hB : w.heap.size ≤ B) (hb : Below B w w') : Own8 w' base e v l := by
  refine World.ownsRow.kept (row := none) h ⟨hb.os, hb.tape, hb.output, hb.size, fun k hk _ => hb.block k (by omega)⟩ ?_
  cases v.ownBlock <;> simp
theorem ownsRow_mono {w : World} {base base' : Nat} {e : TypeId} {size : Nat} {v : Value} {n : Nat} {xs : List Value} (h : w.ownsRow base e size v n xs) (hb : base' ≤ base) : w.ownsRow base' e size v n xs := by
  obtain ⟨h1, h2⟩ := h
  refine ⟨h1, ?_⟩
  rcases h2 with h2 | ⟨g, cap, cur, hv, hg, r⟩
  · exact .inl h2
  · exact .inr ⟨g, cap, cur, hv, by omega, r⟩
theorem Own8.mono {w : World} {base base' : Nat} {e : TypeId} {v : Value} {l : List UInt8} (h : Own8 w base e v l) (hb : base' ≤ base) : Own8 w base' e v l := ownsRow_mono h hb
theorem B8_take_succ (l : List UInt8) (k : Nat) (h : k < l.length) : l.take (k + 1) = l.take k ++ [l.getD k 0] := by
  rw [List.take_succ_eq_append_getElem h]; simp [List.getD, h]
theorem Rd8.len {w : World} {a : Option Addr} {n m cap : Nat} {l : List UInt8} (h : Rd8 w a n cap l) (e : m = n) : Rd8 w a m cap l := by subst e; exact h
theorem Rd8.below {w w' : World} {a : Option Addr} {n cap : Nat} {l : List UInt8} (h : Rd8 w a n cap l) (hb : Below w.heap.size w w') : Rd8 w' a n cap l := ⟨h.1, h.2.below hb⟩
theorem Rd8.at {w : World} {a : Option Addr} {n cap : Nat} {l : List UInt8} (h : Rd8 w a n cap l) (hn : 0 < l.length) :
    ∃ b off, a = some ⟨b, off, none⟩ ∧ b < w.heap.size ∧ ∀ j, j < l.length → w.cell? ⟨b, off + j, none⟩ = some (.int .u8 (n8 (l.getD j 0))) := by
  obtain ⟨rfl, h⟩ := h
  obtain ⟨b, off, ha, hb, hc⟩ := h.at (by omega)
  exact ⟨b, off, ha, hb, fun j hj => hc j _ (B8_get l j hj)⟩
theorem Rd8.sub {w : World} {a : Option Addr} {n cap lo k : Nat} {l : List UInt8} (h : Rd w a n cap 1 (((B8 l).drop (lo * 1)).take (k * 1))) (hk : lo + k ≤ l.length) (hn : n = k) : Rd8 w a n cap ((l.drop lo).take k) := by
  subst hn
  refine ⟨by simp; omega, ?_⟩
  rw [← B8_sub]; exact h
theorem Own8.rd {w : World} {base : Nat} {e : TypeId} {v : Value} {l : List UInt8} (h : Own8 w base e v l) : ∃ a cap, v = .slice a l.length cap ∧ Rd8 w a l.length cap l := by
  obtain ⟨a, cap, hv, hr⟩ := Rd.of_own h
  exact ⟨a, cap, hv, rfl, hr⟩

theorem Rd8.lit (w : World) (l : List UInt8) (n : Nat) (hn : n = l.length) (hm : n ≤ maxLen) (e : TypeId) (fr : Nat × Nat) : Rd8 (w.alloc (.cells (B8 l).toArray e fr)) (some ⟨w.heap.size, 0, none⟩) n n l := by
  refine ⟨hn, Nat.le_refl _, hm, (fun h => by cases h), by rw [B8_length]; omega, fun j u hj => ⟨w.heap.size, 0, rfl, ?_⟩⟩
  rw [Nat.zero_add, cell_of_row _ w.heap.size j (B8 l).toArray e fr (heap_alloc_new w _)]
  simpa using hj

/-! ### Lists of lists of bytes -/
/-- A list of lists of bytes that reads as ls. -/
def Rd88 (w : World) (a : Option Addr) (n cap : Nat) (ls : List (List UInt8)) : Prop :=
  n = ls.length ∧ ∃ vs, Rd w a n cap 1 vs ∧ ∀ (i : Nat) (l : List UInt8), ls[i]? = some l → ∃ ai ci, vs[i]? = some (.slice ai l.length ci) ∧ Rd8 w ai l.length ci l
theorem Rd88.below {w w' : World} {a : Option Addr} {n cap : Nat} {ls : List (List UInt8)} (h : Rd88 w a n cap ls) (hb : Below w.heap.size w w') : Rd88 w' a n cap ls := by
  obtain ⟨h1, vs, h2, h3⟩ := h
  refine ⟨h1, vs, h2.below hb, fun i l hl => ?_⟩
  obtain ⟨ai, ci, hv, hr⟩ := h3 i l hl
  exact ⟨ai, ci, hv, hr.below hb⟩
/-- The cell of a row. -/
theorem Rd88.cell {w : World} {a : Option Addr} {n cap : Nat} {ls : List (List UInt8)} (h : Rd88 w a n cap ls) {k : Nat} (hk : k < ls.length) :
    ∃ b off ai ci, a = some ⟨b, off, none⟩ ∧ b < w.heap.size ∧ w.cell? ⟨b, off + k, none⟩ = some (.slice ai (ls.getD k []).length ci) ∧ Rd8 w ai (ls.getD k []).length ci (ls.getD k []) := by
  obtain ⟨rfl, vs, h2, h3⟩ := h
  obtain ⟨ai, ci, hv, hr⟩ := h3 k (ls.getD k []) (by simp [List.getD, hk])
  obtain ⟨b, off, rfl, hb, hc⟩ := h2.at (by omega)
  exact ⟨b, off, ai, ci, rfl, hb, hc k _ hv, hr⟩

/-! ### Strings -/
def bs (l : List UInt8) : ByteArray := ⟨l.toArray⟩
theorem bs_toList (l : List UInt8) : (bs l).toList = l := by
  rw [Go.ByteArray.toList_eq]; simp [bs]
theorem bs_size (l : List UInt8) : (bs l).size = l.length := by simp [bs, ByteArray.size]

theorem run_toStr {P : Program} {w : World} {a : Option Addr} {n cap : Nat} {l : List UInt8} (h : Rd8 w a n cap l) (src e dst : TypeId)
    (hs : P.underlying src = some (.slice e)) (he : P.underlying e = some (.int .u8)) (hd : P.underlying dst = some .string) :
    (convert src dst (.slice a n cap)).run P w = .ok (.string (bs l)) w := by
  obtain ⟨rfl, hr⟩ := h
  by_cases hl : l.length = 0
  · have : l = [] := List.eq_nil_of_length_eq_zero hl
    subst this
    cases a with
    | none => rw [run_convert_bytes_nil w src e hs he _ _ dst hd]; rfl
    | some a =>
      rw [run_convert_bytes_string w src dst e _ _ cap hs he hd, show ([] : List UInt8).length = 0 from rfl, run_bytesToString w a 0 cap [] (by simp [loadCells, loadCellsFrom])]
      rfl
  · obtain ⟨b, off, rfl, hb, hc⟩ := Rd8.at ⟨rfl, hr⟩ (by omega)
    rw [run_convert_bytes_arg w src e hs he b off l.length cap (l.map n8) (by simp) (fun i hi => by rw [hc i hi]; simp [List.getD, hi]) dst hd]
    congr 2
    simp only [strOfNums, bs]
    congr 2
    rw [List.map_map]
    conv => rhs; rw [← List.map_id l]
    apply List.map_congr_left
    intro x _
    simp [n8]

end Go.Proofs.YtalpbphfmelhhaaGreatDoor
