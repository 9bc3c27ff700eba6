/-
  Values and bytes that came in, opened.
-/
import Derived.Test.YtalpbphfmelhhaaGreatDoorLK
import Derived.Test.YtalpbphfmelhhaaGreatDoorDA
import Derived.Lib.SmallJoins
namespace Go.Proofs.YtalpbphfmelhhaaGreatDoor
open Go.ChangeShapes Go.WideShapes Go.ChangeAt Go.RowKit Go.Shelf
set_option maxRecDepth 100000 in
/-- A value of the store that came in. -/
theorem val_open {H : Type} {enc : TypeId × Value → H} {w : World} {r : Reach} {base b0 : Nat} {sp : Nat → Bool} {held : Bool} {v : Value} {d : DataW H} {p : List MemPlace}
    (hv : Value.okWide Tryz.prog w r b0 48 v) (h : DataW.Trod enc Tryz.prog w base sp held 48 v d p) :
    ∃ (k : Int) (x : UInt64) (s : List UInt8), v = VA k x s ∧ (Lit.int .i64 k).wf = true ∧ s.length ≤ 9223372036854775807 := by
  obtain ⟨v0, v1, v2, y0, y1, y2, n, rfl, _, _, h0, h1, h2⟩ := Joins.open_agg3 Tryz.underlying48 (by kernel_rfl) (by kernel_rfl) hv h
  obtain ⟨k, e0, _, hk⟩ := DataW.trod_int Tryz.underlying3 h0
  obtain ⟨b, e1, hb⟩ := trod_float Tryz.underlying46 h1
  obtain ⟨s, e2, _, hs⟩ := DataW.trod_string Tryz.underlying9 h2
  obtain ⟨x, rfl⟩ := fb_of hb
  obtain ⟨l, rfl, hl⟩ := bs_of s
  simp only [List.cons.injEq, and_true] at e0 e1 e2
  subst e0 e1 e2
  exact ⟨k, x, l, rfl, hk, by rw [hl]; exact hs⟩
set_option maxRecDepth 100000 in
/-- Bytes that came in. -/
theorem rd8_open {H : Type} {enc : TypeId × Value → H} {w : World} {base : Nat} {sp : Nat → Bool} {held : Bool} {t e : TypeId} {fuel : Nat} {a : Option Addr} {len cap : Nat} {x : DataW H × List MemPlace}
    (ht : Tryz.prog.underlying t = some (.slice e)) (he : Tryz.prog.underlying e = some (.int .u8)) (hc : Tryz.prog.cellsOf e = 1)
    (h : DataW.trod enc Tryz.prog w base sp held fuel t (Value.slice a len cap).cells.toList = some x) : ∃ l, Rd8 w a len cap l := by
  obtain ⟨xs, hr, m, hel⟩ := rd_open ht hc (by decide) h
  have hlen : xs.length = len := by simpa using hr.2.2.2.1
  have hx : ∀ i, i < len → ∃ z : UInt8, xs[i]? = some (.int .u8 (n8 z)) := by
    intro i hi
    obtain ⟨y, hy⟩ := hel i hi
    obtain ⟨n, hn, _, hw⟩ := DataW.trod_int he hy
    have hb : 0 ≤ n ∧ n < 256 := by
      have := hw; simp [Lit.wf, IntKind.min, IntKind.max, IntKind.signed, IntKind.bits] at this; omega
    refine ⟨UInt8.ofNat n.toNat, ?_⟩
    have := congrArg (·[0]?) hn
    rw [n8_of _ (by omega), show ((n.toNat : Nat) : Int) = n by omega]
    simpa [List.getElem?_take, List.getElem?_drop] using this
  let l : List UInt8 := (List.range len).map fun i => match xs[i]? with | some (Value.int _ b) => UInt8.ofNat b.toNat | _ => 0
  have hll : l.length = len := by simp [l]
  have hxs : xs = B8 l := by
    apply List.ext_getElem?
    intro i
    by_cases hi : i < len
    · obtain ⟨z, hz⟩ := hx i hi
      rw [B8_get l i (by omega), hz]
      congr 2
      have : l.getD i 0 = z := by
        simp only [l, List.getD, List.getElem?_map, List.getElem?_range, hi, Option.map_some, Option.getD_some, hz]
        unfold n8
        exact UInt8.toNat_inj.1 (by rw [UInt8.toNat_ofNat']; have := z.toNat_lt; omega)
      rw [this]
    · rw [List.getElem?_eq_none (by omega), List.getElem?_eq_none (by rw [B8_length]; omega)]
  exact ⟨l, hll.symm, by rw [← hxs]; exact hr⟩
end Go.Proofs.YtalpbphfmelhhaaGreatDoor
