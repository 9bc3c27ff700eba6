/-
 A region that draws its order, whose last operations (from number n on) come in one order behind all others: in the head loads are taken first where they yield the same in every world that meets S; S is shown anew behind each operation of the head that makes memory or calls; the tail is a plain walk. No Go text in sight.
-/
import Derived.Test.YtjjcilinghgphaaGreatK3
import Derived.StillTailTactics
import Derived.Deep.RegionHeld3
namespace Go.Proofs.YtjjcilinghgphaaGreat
open Go.RowKit

section
variable {P : Program} {ops : Array Oper} {Q : Exit → Act → World → Prop} {md : Region.Mode} {S : World → Prop} {n : Nat} {L : Array Bool → Act → World → Prop}

/-- Whatever order is picked in the head, S holding behind each operation; then L. -/
def wpAnyK (P : Program) (md : Region.Mode) (ops : Array Oper) (Q : Exit → Act → World → Prop) (S : World → Prop) (n : Nat) (L : Array Bool → Act → World → Prop) : Nat → Array Bool → Act → World → Prop
 | 0, listed, a, w => L listed a w
 | f + 1, listed, a, w => Region.ready md ops listed ≠ [] ∧ ∀ i ∈ Region.ready md ops listed, i < n ∧ wpOp P ops Q i (fun a' w' => S w' ∧ wpAnyK P md ops Q S n L f (listed.setIfInBounds i true) a' w') a w

theorem wpAny_of_K {g : Nat} (hL : ∀ listed a w, L listed a w → wpAny P md ops Q g listed a w) : ∀ (f : Nat) (listed : Array Bool) (a : Act) (w : World), wpAnyK P md ops Q S n L f listed a w → wpAny P md ops Q (f + g) listed a w
 | 0, _, _, _, h => by rw [Nat.zero_add]; exact hL _ _ _ h
 | f + 1, listed, a, w, h => by
  rw [show f + 1 + g = (f + g) + 1 by omega]
  exact ⟨fun h0 => absurd h0 h.1, fun i hi => wpOp_mono (fun a' w' h' => wpAny_of_K hL f _ a' w' h'.2) (h.2 i hi).2⟩

theorem wpAnyK_first {i : Nat} {oi : Oper} {v : Value} (hi : ops[i]? = some oi) (hsel : ∀ (j : Nat) (o : Oper) cs b, ops[j]? = some o → o.op ≠ .select cs b)
 (hQ : ∀ c a w, Q (.panic c) (a.put oi.dst v) w → Q (.panic c) a w) (hs : Region.sinkB md ops n = true) (hc : Region.chainB md ops n = true) (hn : n < ops.size) (hin : i < n)
 (hdone : ∀ listed a w, L listed a w → ∀ j ∈ Region.ready md ops listed, n ≤ j) :
 ∀ (f : Nat) (listed : Array Bool) (a : Act) (w : World), HeadInv md ops n listed →
  (∀ j oj, ops[j]? = some oj → j ≠ i → listed.getD j true = false → (∀ e ∈ oj.after, Region.binds md e = true → e.on ≠ i) → oi.apart ops oj = true) →
  i ∈ Region.ready md ops listed → YieldsIf P ops S oi v a → S w →
  wpAnyK P md ops Q S n L f (listed.setIfInBounds i true) (a.put oi.dst v) w → wpAnyK P md ops Q S n L (f + 1) listed a w := by
 intro f
 induction f with
 | zero =>
  intro listed a w inv _ hr hy hS H
  have hun := (mem_ready.1 hr).1
  refine ⟨fun h => (by rw [h] at hr; cases hr), fun j hj => ?_⟩
  have hjn : j < n := by
   rcases Nat.lt_or_ge j n with h | h
   · exact h
   · exact absurd hj (tail_waits hs hc hn inv _ i rfl hin hun j h)
  refine ⟨hjn, ?_⟩
  by_cases hji : j = i
  · subst hji; exact hy.wpOp hi hS ⟨hS, H⟩
  · have := hdone _ _ _ H j (ready_mono hj hji)
    omega
 | succ f ih =>
  intro listed a w inv hfree hr hy hS H
  have hun := (mem_ready.1 hr).1
  refine ⟨fun h => (by rw [h] at hr; cases hr), fun j hj => ?_⟩
  have hjn : j < n := by
   rcases Nat.lt_or_ge j n with h | h
   · exact h
   · exact absurd hj (tail_waits hs hc hn inv _ i rfl hin hun j h)
  refine ⟨hjn, ?_⟩
  by_cases hji : j = i
  · subst hji; exact hy.wpOp hi hS ⟨hS, H⟩
  · have h1 := (H.2 j (ready_mono hj hji)).2
    obtain ⟨hjun, oj, hoj, hall⟩ := mem_ready.1 hj
    have hnot : ∀ e ∈ oj.after, Region.binds md e = true → e.on ≠ i := fun e he hb heq => by
     have h1 := hall e he hb
     rw [heq, getD_both hun] at h1
     cases h1
    have h2 := wpOp_putIf hoj (hfree j oj hoj hji hjun hnot) (fun cs b => hsel i oi cs b hi) (fun cs b => hsel j oj cs b hoj) hQ hy h1
    have hfree' : ∀ k ok, ops[k]? = some ok → k ≠ i → (listed.setIfInBounds j true).getD k true = false →
     (∀ e ∈ ok.after, Region.binds md e = true → e.on ≠ i) → oi.apart ops ok = true := fun k ok hk hki hun hno => by
     refine hfree k ok hk hki ?_ hno
     by_cases hjk : j = k
     · subst hjk; exact hjun
     · rw [getD_set_ne true hjk] at hun; exact hun
    refine wpOp_mono (fun a' w' h3 => ⟨h3.2.1, ih (listed.setIfInBounds j true) a' w' (inv.set hj hjn) hfree' (ready_mono hr (Ne.symm hji)) h3.1 h3.2.1 ?_⟩) h2
    rw [Array.setIfInBounds_comm _ _ hji]
    exact h3.2.2

/-- What the order asks of the region. -/
def tailB (md : Region.Mode) (ops : Array Oper) (n : Nat) : Bool := Region.noSelect ops && decide (n < ops.size) && Region.sinkB md ops n && Region.chainB md ops n
/-- The walk of the head: 'l' are the region's operations. -/
def wpHT (P : Program) (md : Region.Mode) (l : List Oper) (Q : Exit → Act → World → Prop) (S : World → Prop) (n : Nat) (f : Nat) (listed : Array Bool) (a : Act) (w : World) : Prop :=
 HeadInv md l.toArray n listed → wpAnyK P md l.toArray Q S n (fun listed a w => Region.seqB md l.toArray (l.length - n) n listed = true ∧ wpList P l.toArray Q (l.drop n) a w) f listed a w

variable {l : List Oper}
theorem wpHT_take {i : Nat} {oi : Oper} {v : Value} {f : Nat} {listed : Array Bool} {a : Act} {w : World} (hB : tailB md l.toArray n = true) (hi : l.toArray[i]? = some oi) (hin : i < n)
 (hf : Region.free md l.toArray listed i = true) (hr : (Region.ready md l.toArray listed).contains i = true)
 (hQ : ∀ c a w, Q (.panic c) (a.put oi.dst v) w → Q (.panic c) a w) (hy : YieldsIf P l.toArray S oi v a) (hS : S w)
 (h : wpHT P md l Q S n f (listed.setIfInBounds i true) (a.put oi.dst v) w) : wpHT P md l Q S n (f + 1) listed a w := by
 simp only [tailB, Bool.and_eq_true, decide_eq_true_eq] at hB
 obtain ⟨⟨⟨hsel, hn⟩, hs⟩, hc⟩ := hB
 intro inv
 have hr' : i ∈ Region.ready md l.toArray listed := by simpa using hr
 exact wpAnyK_first hi (Region.noSelect_spec hsel) hQ hs hc hn hin (fun listed' a' w' hL => seqB_ready hL.1) f listed a w inv (Region.free_spec hi hf) hr' hy hS (h (inv.set hr' hin))
/-- A take of an operation whose slot is written out. -/
theorem wpHT_takeD {i d : Nat} {oi : Oper} {v : Value} {f : Nat} {listed : Array Bool} {a : Act} {w : World} (hB : tailB md l.toArray n = true) (hi : l.toArray[i]? = some oi) (hd : oi.dst = some d) (hin : i < n)
 (hf : Region.free md l.toArray listed i = true) (hr : (Region.ready md l.toArray listed).contains i = true)
 (hQ : ∀ c a w, Q (.panic c) (a.put oi.dst v) w → Q (.panic c) a w) (hy : YieldsIf P l.toArray S oi v a) (hS : S w)
 (h : wpHT P md l Q S n f (listed.setIfInBounds i true) (a.put (some d) v) w) : wpHT P md l Q S n (f + 1) listed a w :=
 wpHT_take hB hi hin hf hr hQ hy hS (by rw [hd]; exact h)
/-- One operation that makes memory or calls, where it alone may come up. -/
theorem wpHT_one {i : Nat} {o : Oper} {f : Nat} {listed : Array Bool} {a : Act} {w : World} (hr : Region.ready md l.toArray listed = [i]) (ho : l.toArray[i]? = some o) (hin : i < n)
 (h : ∀ K' : Act → World → Prop, Shut (∀ a w, S w → (S w → wpHT P md l Q S n f (listed.setIfInBounds i true) a w) → K' a w) → if Region.wanted o (yielded l.toArray a.tmps) = true then Oper.wp P o a w K' Q else K' (a.put o.dst undef) w) :
 wpHT P md l Q S n (f + 1) listed a w := by
 intro inv
 refine ⟨by rw [hr]; simp, fun j hj => ?_⟩
 have hi : i ∈ Region.ready md l.toArray listed := by rw [hr]; simp
 rw [hr] at hj
 obtain rfl : j = i := by simpa using hj
 exact ⟨hin, wpOp_step ho fun K' hK => h K' fun a w hS hW => hK a w ⟨hS, hW hS (inv.set hi hin)⟩⟩
theorem wpHT_done {listed : Array Bool} {a : Act} {w : World} (hr : Region.seqB md l.toArray (l.length - n) n listed = true) (h : wpList P l.toArray Q (l.drop n) a w) : wpHT P md l Q S n 0 listed a w := fun _ => ⟨hr, h⟩
theorem wp_region_ht {id : Nat} {a : Act} {w : World} (n : Nat) (S : World → Prop) (hm : P.follows .mixedOrders = true) (hB : tailB .any l.toArray n = true) (hS : S w.drew)
 (h : S w.drew → wpHT P .any l Q S n n (Array.replicate l.toArray.size false) a w.drew) : (Code.region id l.toArray true).wp P Q a w := by
 have hB' := hB
 simp only [tailB, Bool.and_eq_true, decide_eq_true_eq] at hB'
 obtain ⟨⟨⟨hsel, hn⟩, hs⟩, hc⟩ := hB'
 have inv0 : HeadInv .any l.toArray n (Array.replicate l.toArray.size false) :=
  ⟨by simp, fun j oj _ hl => (by rw [getD_replicate_false] at hl; cases hl), fun t _ ht => getD_in (by simpa using ht) (getD_replicate_false _ _)⟩
 refine wp_region_any hm ?_
 have hn' : n < l.length := by simpa using hn
 have := wpAny_of_K (g := l.length - n) (Q := Q) (fun listed a' w' hL => by
  have := wpAny_of_seq (md := .any) (ops := l.toArray) (Q' := Q) (l.drop n) n listed a' w' (fun j => by simp [List.getElem?_drop]) (by rw [List.length_drop]; exact hL.1) hL.2
  rwa [List.length_drop] at this) _ _ _ _ (h hS inv0)
 rw [show n + (l.length - n) = l.toArray.size by simp; omega] at this
 exact this
end
theorem cell_alloc_keep {w : World} {o : Obj} {a : Addr} {v : Value} (h : w.cell? a = some v) : (w.alloc o).cell? a = some v := by
 rw [World.cell?_alloc_lt _ _ _ (World.block_lt_of_cell? w a h)]; exact h
end Go.Proofs.YtjjcilinghgphaaGreat
