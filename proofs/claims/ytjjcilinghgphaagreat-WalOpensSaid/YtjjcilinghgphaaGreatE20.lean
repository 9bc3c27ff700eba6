/-
 What a proof's frame tells of the laws' operations and files that came in.
-/
import Derived.Test.YtjjcilinghgphaaGreatEY
import Derived.Test.YtjjcilinghgphaaGreatPG
namespace Go.Proofs.YtjjcilinghgphaaGreat
open Go.ChangeShapes Go.WideShapes Go.ChangeAt Go.RowKit
set_option maxRecDepth 100000

theorem choose_list {α : Type} {P : Nat → α → Prop} : ∀ (n : Nat), (∀ i, i < n → ∃ o, P i o) → ∃ os : List α, os.length = n ∧ ∀ i o, os[i]? = some o → P i o
 | 0, _ => ⟨[], rfl, fun i o h => by simp at h⟩
 | n + 1, h => by
  obtain ⟨os, h1, h2⟩ := choose_list n fun i hi => h i (by omega)
  obtain ⟨o, ho⟩ := h n (by omega)
  refine ⟨os ++ [o], by simp [h1], fun i x hx => ?_⟩
  rcases Nat.lt_or_ge i n with hi | hi
  · rw [List.getElem?_append_left (by omega)] at hx; exact h2 i x hx
  · have hlt := (List.getElem?_eq_some_iff.1 hx).1
    simp at hlt
    have : i = n := by omega
    subst this
    rw [List.getElem?_append_right (by omega)] at hx
    simp [h1] at hx
    subst hx; exact ho
theorem Rd.blkIn {w : World} {a : Option Addr} {n cap size : Nat} {xs : List Value} (h : Rd w a n cap size xs) (hs : 0 < size) : BlkIn a n fun b => b < w.heap.size := fun h0 b hb => by
 obtain ⟨b', off, rfl, hlt, _⟩ := h.at (Nat.mul_pos h0 hs)
 cases hb; exact hlt
section
variable {H : Type} {enc : TypeId × Value → H} {w : World} {base : Nat} {sp : Nat → Bool} {held : Bool} {t e : TypeId} {fuel : Nat} {a : Option Addr} {len cap : Nat} {cs : List Value} {x : DataW H × List MemPlace}
/-- Bytes that came in. -/
theorem rd8_open (ht : Tryz.prog.underlying t = some (.slice e)) (he : Tryz.prog.underlying e = some (.int .u8)) (hc : Tryz.prog.cellsOf e = 1)
 (h : DataW.trod enc Tryz.prog w base sp held fuel t (Value.slice a len cap).cells.toList = some x) : ∃ l, Rd8 w a len cap l := by
 obtain ⟨xs, hr, m, hel⟩ := rd_open ht hc (by decide) h
 have hlen : xs.length = len := by simpa using hr.2.2.2.1
 obtain ⟨l, h1, h2⟩ := choose_list (P := fun i (z : UInt8) => xs[i]? = some (.int .u8 (n8 z))) len fun i hi => by
  obtain ⟨y, hy⟩ := hel i hi
  obtain ⟨n, hn, _, hw⟩ := DataW.trod_int he hy
  have hb : 0 ≤ n ∧ n < 256 := by
   have := hw; simp [Lit.wf, IntKind.min, IntKind.max, IntKind.signed, IntKind.bits] at this; omega
  refine ⟨UInt8.ofNat n.toNat, ?_⟩
  have := congrArg (·[0]?) hn
  rw [n8_of _ (by omega), show ((n.toNat : Nat) : Int) = n by omega]
  simpa [List.getElem?_take, List.getElem?_drop] using this
 have hxs : xs = B8 l := by
  apply List.ext_getElem?
  intro i
  rcases Nat.lt_or_ge i len with hi | hi
  · obtain ⟨z, hz⟩ : ∃ z, l[i]? = some z := ⟨_, List.getElem?_eq_getElem (by omega)⟩
    rw [h2 i z hz]; simp [B8, hz]
  · rw [List.getElem?_eq_none (by omega), List.getElem?_eq_none (by rw [B8_length]; omega)]
 exact ⟨l, h1.symm, by rw [← hxs]; exact hr⟩
/-- Integers that came in. -/
theorem rdI_open (ht : Tryz.prog.underlying t = some (.slice e)) (he : Tryz.prog.underlying e = some (.int .i64)) (hc : Tryz.prog.cellsOf e = 1)
 (h : DataW.trod enc Tryz.prog w base sp held fuel t (Value.slice a len cap).cells.toList = some x) : ∃ p, RdI w a len cap p := by
 obtain ⟨xs, hr, m, hel⟩ := rd_open ht hc (by decide) h
 have hlen : xs.length = len := by simpa using hr.2.2.2.1
 obtain ⟨l, h1, h2⟩ := choose_list (P := fun i (z : Int) => xs[i]? = some (.int .i64 z) ∧ -9223372036854775808 ≤ z ∧ z ≤ 9223372036854775807) len fun i hi => by
  obtain ⟨y, hy⟩ := hel i hi
  obtain ⟨n, hn, _, hw⟩ := DataW.trod_int he hy
  have hb : -9223372036854775808 ≤ n ∧ n ≤ 9223372036854775807 := by
   have := hw; simp [Lit.wf, IntKind.min, IntKind.max, IntKind.signed, IntKind.bits] at this; omega
  refine ⟨n, ?_, hb⟩
  have := congrArg (·[0]?) hn
  simpa [List.getElem?_take, List.getElem?_drop] using this
 have hxs : xs = l.map (Value.int .i64) := by
  apply List.ext_getElem?
  intro i
  rcases Nat.lt_or_ge i len with hi | hi
  · obtain ⟨z, hz⟩ : ∃ z, l[i]? = some z := ⟨_, List.getElem?_eq_getElem (by omega)⟩
    rw [(h2 i z hz).1]; simp [hz]
  · rw [List.getElem?_eq_none (by omega), List.getElem?_eq_none (by simp; omega)]
 exact ⟨l, h1.symm, by rw [← hxs]; exact hr, fun z hz => by obtain ⟨i, hi⟩ := List.getElem?_of_mem hz; exact (h2 i z hi).2⟩
theorem slice_form {P : Program} (ht : P.underlying t = some (.slice e)) (h : DataW.trod enc P w base sp held fuel t cs = some x) : ∃ a len cap, cs = [.slice a len cap] := by
 rcases DataW.trod_slice ht h with ⟨hcs, _⟩ | ⟨a', len', cap', _, _, _, _, hcs, _⟩
 · exact ⟨_, _, _, hcs⟩
 · exact ⟨_, _, _, hcs⟩
theorem field_of {P : Program} {fs : Array Field} (ht : P.underlying t = some (.struct fs)) (h : DataW.trod enc P w base sp held fuel t cs = some x) :
 cs.length = P.cellsOf t ∧ ∃ n, ∀ (i : Nat) (f : Field), fs[i]? = some f → ∃ y, DataW.trod enc P w base sp held n f.type ((cs.drop f.offset).take (P.cellsOf f.type)) = some y := by
 obtain ⟨xs, n, _, _, hl, hlen, hf⟩ := DataW.trod_struct ht h
 refine ⟨hl, n, fun i f hi => ?_⟩
 rw [hf i f hi]
 have := (Array.getElem?_eq_some_iff.1 hi).1
 exact ⟨_, List.getElem?_eq_getElem (by omega)⟩
theorem one_get {cs : List Value} {j : Nat} {v : Value} (h : (cs.drop j).take 1 = [v]) : cs[j]? = some v := by
 have := congrArg (·[0]?) h
 simpa [List.getElem?_take, List.getElem?_drop] using this
/-- A string's cell. -/
theorem str_open {P : Program} (ht : P.underlying t = some .string) (h : DataW.trod enc P w base sp held fuel t cs = some x) : ∃ l : List UInt8, cs = [.string (bs l)] ∧ l.length ≤ 9223372036854775807 := by
 obtain ⟨s, e2, _, hs⟩ := DataW.trod_string ht h
 refine ⟨s.data.toList, ?_, ?_⟩
 · rw [e2]; congr 2
 · rw [Array.length_toList]; exact hs
theorem int_open {P : Program} (ht : P.underlying t = some (.int .i64)) (h : DataW.trod enc P w base sp held fuel t cs = some x) : ∃ n : Int, cs = [.int .i64 n] ∧ -9223372036854775808 ≤ n ∧ n ≤ 9223372036854775807 := by
 obtain ⟨n, hn, _, hw⟩ := DataW.trod_int ht h
 refine ⟨n, hn, ?_⟩
 simp [Lit.wf, IntKind.min, IntKind.max, IntKind.signed, IntKind.bits] at hw; omega
end
theorem rdI_arg {H : Type} {enc : TypeId × Value → H} {w : World} {base : Nat} {sp : Nat → Bool} {held : Bool} {fuel : Nat} {a : Option Addr} {len cap : Nat} {x : DataW H × List MemPlace}
 (h : DataW.trod enc Tryz.prog w base sp held fuel 46 (Value.slice a len cap).cells.toList = some x) : ∃ p, RdI w a len cap p ∧ BlkIn a len fun b => b < w.heap.size := by
 obtain ⟨p, hp⟩ := rdI_open (a := a) (len := len) (cap := cap) Tryz.underlying46 Tryz.underlying3 (by kernel_rfl) h
 exact ⟨p, hp, hp.2.1.blkIn (by decide)⟩
end Go.Proofs.YtjjcilinghgphaaGreat
