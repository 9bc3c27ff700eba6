/-
  Frames by sets of blocks: all blocks outside a set are as they were. No Go text in sight.
  append onto a slice of the call's own at a step of a region that draws its order.
  Lists of structs whose cells are all plain: how they read, how they grow. No walk.
  A region that draws its order, whose last operations (from number n on) come in one order behind all others: in the head loads are taken first where they yield the same in every world that meets S; S is shown anew behind each operation of the head that makes memory or calls; the tail is a plain walk. No Go text in sight.
-/
import Derived.Test.YtalpbphfmelhhaaGreatDoorK1
import Derived.Maps.AppendAt
import Derived.WalkSmall
import Derived.Lib.AppendStr
import Derived.Deep.RegionLaw
import Derived.Deep.AppendLies
import Derived.StillTailTactics
import Derived.Deep.RegionHeld3
/-! ### Frames by sets of blocks: all blocks outside a set are as they were. No Go text in sight. -/
namespace Go.Proofs.YtalpbphfmelhhaaGreatDoor
open Go.RowKit

/-- Blocks outside S are as they were; the streams are; no block has gone. -/
structure Fr (S : Nat → Prop) (w w' : World) : Prop where
  os : w'.os = w.os
  tape : w'.tape = w.tape
  output : w'.output = w.output
  size : w.heap.size ≤ w'.heap.size
  block : ∀ k, k < w.heap.size → ¬ S k → w'.heap[k]? = w.heap[k]?

theorem Fr.refl (S : Nat → Prop) (w : World) : Fr S w w := ⟨rfl, rfl, rfl, Nat.le_refl _, fun _ _ _ => rfl⟩
theorem Fr.trans' {S S' T : Nat → Prop} {a b c : World} (h : Fr S a b) (k : Fr S' b c) (h1 : ∀ k, k < a.heap.size → S k → T k) (h2 : ∀ k, k < a.heap.size → S' k → T k) : Fr T a c :=
  ⟨k.os.trans h.os, k.tape.trans h.tape, k.output.trans h.output, Nat.le_trans h.size k.size, fun i hi hn =>
    (k.block i (Nat.lt_of_lt_of_le hi h.size) (fun hs => hn (h2 i hi hs))).trans (h.block i hi (fun hs => hn (h1 i hi hs)))⟩
theorem Fr.trans {S : Nat → Prop} {a b c : World} (h : Fr S a b) (k : Fr S b c) : Fr S a c := h.trans' k (fun _ _ h => h) (fun _ _ h => h)
theorem Fr.mono {S T : Nat → Prop} {a b : World} (h : Fr S a b) (h1 : ∀ k, k < a.heap.size → S k → T k) : Fr T a b :=
  ⟨h.os, h.tape, h.output, h.size, fun i hi hn => h.block i hi fun hs => hn (h1 i hi hs)⟩
/-- A call that changes nothing that was there. -/
theorem Fr.of_new {S : Nat → Prop} {a b : World} (h : Below a.heap.size a b) : Fr S a b := ⟨h.os, h.tape, h.output, h.size, fun i hi _ => h.block i hi⟩
theorem Fr.below {S : Nat → Prop} {a b : World} (h : Fr S a b) {B : Nat} (hB : B ≤ a.heap.size) (hn : ∀ k, k < B → ¬ S k) : Below B a b :=
  ⟨h.os, h.tape, h.output, h.size, fun k hk => h.block k (by omega) (hn k hk)⟩
theorem Fr.alloc {S : Nat → Prop} {a b : World} (h : Fr S a b) (o : Obj) : Fr S a (b.alloc o) := h.trans (Fr.of_new ((Below.refl _ _).alloc (Nat.le_refl _) o))
theorem Fr.drewN {S : Nat → Prop} {a b : World} (h : Fr S a b) (n : Nat) : Fr S a (b.drewN n) := h.trans ⟨rfl, rfl, rfl, Nat.le_refl _, fun _ _ _ => rfl⟩
theorem Fr.drew {S : Nat → Prop} {a b : World} (h : Fr S a b) : Fr S a b.drew := ⟨h.os, h.tape, h.output, h.size, h.block⟩
theorem Fr.setCell {S : Nat → Prop} {a b : World} (h : Fr S a b) {p : Addr} (hp : p.block < a.heap.size → S p.block) (u : Value) : Fr S a (b.setCell p u) :=
  ⟨h.os, h.tape, h.output, by simp [World.setCell]; exact h.size, fun i hi hn => by
    rw [Below.heap_setCell b p u i (fun e => hn (by subst e; exact hp hi))]; exact h.block i hi hn⟩
theorem Fr.grown {S : Nat → Prop} {a b c : World} {row : Option Nat} (h : Fr S a b) (hg : b.grownBy c row) (hr : ∀ k, k < a.heap.size → row = some k → S k) : Fr S a c :=
  ⟨hg.os.trans h.os, hg.tape.trans h.tape, hg.output.trans h.output, Nat.le_trans h.size hg.size, fun i hi hn =>
    (hg.block i (Nat.lt_of_lt_of_le hi h.size) (fun e => hn (hr i hi e.symm))).trans (h.block i hi hn)⟩
theorem Fr.cell {S : Nat → Prop} {a b : World} (h : Fr S a b) {p : Addr} (hp : p.block < a.heap.size) (hn : ¬ S p.block) : b.cell? p = a.cell? p := World.cell?_of_block (w := a) (h.block p.block hp hn)
theorem Fr.frozen {S : Nat → Prop} {a b : World} (h : Fr S a b) {p : Addr} (hp : p.block < a.heap.size) (hn : ¬ S p.block) : b.frozen? p = a.frozen? p := World.frozen?_of_block (w := a) (h.block p.block hp hn)

theorem Rd.keep {w w' : World} {a : Option Addr} {n cap size : Nat} {xs : List Value} (h : Rd w a n cap size xs) (hk : ∀ b o, a = some ⟨b, o, none⟩ → b < w.heap.size → w'.heap[b]? = w.heap[b]?) : Rd w' a n cap size xs := by
  obtain ⟨h1, h2, h0, h3, h4⟩ := h
  refine ⟨h1, h2, h0, h3, fun j u hj => ?_⟩
  obtain ⟨b, off, ha, hc⟩ := h4 j u hj
  refine ⟨b, off, ha, ?_⟩
  have hlt := World.block_lt_of_cell? w _ hc
  rw [World.cell?_of_block (w := w) (a := ⟨b, off + j, none⟩) (hk b off ha hlt)]; exact hc
/-- The block of a slice's elements. -/
def blk (a : Option Addr) : Option Nat := a.map (·.block)
theorem Rd8.keep {S : Nat → Prop} {w w' : World} {a : Option Addr} {n cap : Nat} {l : List UInt8} (h : Rd8 w a n cap l) (hf : Fr S w w') (hk : ∀ b, blk a = some b → ¬ S b) : Rd8 w' a n cap l :=
  ⟨h.1, h.2.keep fun b o ha hb => hf.block b hb (hk b (by rw [ha]; rfl))⟩
theorem ownsRow_keep {w w' : World} {base : Nat} {e : TypeId} {size : Nat} {v : Value} {n : Nat} {xs : List Value} (h : w.ownsRow base e size v n xs) (hk : ∀ k, v.ownBlock = some k → w'.heap[k]? = w.heap[k]?) : w'.ownsRow base e size v n xs := by
  obtain ⟨h1, h2⟩ := h
  refine ⟨h1, ?_⟩
  rcases h2 with h2 | ⟨g, cap, cur, hv, hb, hg, r⟩
  · exact .inl h2
  · refine .inr ⟨g, cap, cur, hv, hb, ?_, r⟩
    rw [hk g (by rw [hv]; rfl)]; exact hg
theorem Own8.keep {S : Nat → Prop} {w w' : World} {base : Nat} {e : TypeId} {v : Value} {l : List UInt8} (h : Own8 w base e v l) (hf : Fr S w w') (hk : ∀ k, v.ownBlock = some k → ¬ S k) : Own8 w' base e v l :=
  ownsRow_keep h fun k hv => hf.block k (World.ownsRow.lt h k hv).2 (hk k hv)

/-! ### append, and where the new slice lies -/
/-- append of a string's bytes. -/
theorem wpList_appS {P : Program} {t u e : TypeId} (S : STy P t e (.int .u8 0) 1 1) (hu : P.underlying u = some .string) {w : World} {ops : Array Oper} {rest : List Oper} {o : Oper} {a : Act} {Q : Exit → Act → World → Prop}
    (hgd : o.guard = none) (s x : Operand) (ho : o.op = .call { callee := .builtin .append, args := #[s, x], argTypes := #[t, u] })
    (base : Nat) {v : Value} {l : List UInt8} (hs : a.eval s = v) (hown : Own8 w base e v l) {m : List UInt8} (hx : a.eval x = .string (bs m))
    (hbytes : l.length + m.length ≤ 1000000000) (hbase : base ≤ w.heap.size)
    (hK : ∀ v' w', Own8 w' base e v' (l ++ m) → w.grownBy w' v.ownBlock → wpList P ops Q rest (a.put o.dst v') w') : wpList P ops Q (o :: rest) a w := by
  obtain ⟨i, hi0, hi1, hi2, hi3⟩ := S.info
  have hsz := bs_size m
  refine Lib.wpList_append_own_string w hgd s x t u ho base e i S.ht hu hi0 hi1 hi2 hi3 v _ _ hs hown (bs m) hx (by rw [hsz]; simp [maxLen]; omega) (by rw [hsz]; omega) hbase fun v' w' h2 h3 _ => hK v' w' ?_ h3
  exact Own8.mk h2 (by rw [hsz, List.length_append]) (by rw [B8_append]; simp [Lib.strCells, B8, bs, n8])
end Go.Proofs.YtalpbphfmelhhaaGreatDoor

/-! ### append onto a slice of the call's own at a step of a region that draws its order. -/
namespace Go.Proofs.YtalpbphfmelhhaaGreatDoor
open Go.RowKit
theorem step_app {P : Program} {t e : TypeId} {z : Value} {size bytes : Nat} (S : STy P t e z size bytes) {w : World} {ops : Array Oper} {o : Oper} {a : Act} {K : Act → World → Prop} {Q : Exit → Act → World → Prop} {E : Prop}
    (hgd : o.guard = none) (s x : Operand) (ho : o.op = .call { callee := .builtin .append, args := #[s, x], argTypes := #[t, t] })
    (base : Nat) {v : Value} {n : Nat} {xs : List Value} (hs : a.eval s = v) (hown : w.ownsRow base e size v n xs)
    {ad : Option Addr} {m c : Nat} {news : List Value} (hx : a.eval x = .slice ad m c) (hr : Rd w ad m c size news) (h1 : ∀ u ∈ news, u.oneCell' = true)
    (hm : 0 < m) (hbytes : (n + m) * bytes ≤ 140737488355328) (h63 : n + m ≤ maxLen) (hbase : base ≤ w.heap.size)
    (hK : ∀ v' w', w'.ownsRow base e size v' (n + m) (xs ++ news) → Below base w w' → K (a.put o.dst v') w') :
    if Region.wanted o (yielded ops a.tmps) = true then Oper.wp P o a w K Q else E := by
  obtain ⟨i, hi0, hi1, hi2, hi3⟩ := S.info
  obtain ⟨b, off, rfl, hb, hcell⟩ := hr.at (Nat.mul_pos hm S.pos)
  refine step_append_lies w hgd s x t ho base e i z size bytes S.ht hi0 hi1 hi2 hi3 S.zs S.pos v n xs hs hown ⟨b, off, none⟩ m c news hx hr.2.2.2.1
    (fun j u hj => by rw [Addr.add_none]; exact hcell j u hj) h1 hm h63 hbytes hbase w.heap.size rfl fun g cap w' h2 h3 _ _ => hK _ w' h2 ((Below.refl _ _).grown h3 hbase (fun k hk => (hown.lt k hk).1))
end Go.Proofs.YtalpbphfmelhhaaGreatDoor

/-! ### Lists of structs whose cells are all plain: how they read, how they grow. No walk. -/
namespace Go.Proofs.YtalpbphfmelhhaaGreatDoor
open Go.RowKit
set_option maxRecDepth 100000
theorem row_set {w : World} {g i : Nat} {cs cs' : Array Value} {t : TypeId} {v : Value} (hg : w.heap[g]? = some (.cells cs t (0, 0))) (he : cs.setIfInBounds i v = cs') : (w.setCell ⟨g, i, none⟩ v).heap[g]? = some (.cells cs' t (0, 0)) := by
  rw [heap_setCell_same w g i cs t v hg, he]
section
variable {α : Type} {enc : α → List Value} {m : Nat} {w w' : World} {a : Option Addr} {n cap : Nat} {l : List α}
def flatE (enc : α → List Value) (l : List α) : List Value := l.flatMap enc
theorem flatE_length (hm : ∀ x, (enc x).length = m) : ∀ l : List α, (flatE enc l).length = l.length * m
  | [] => by simp [flatE]
  | x :: r => by
    show (enc x ++ flatE enc r).length = _
    rw [List.length_append, hm, flatE_length hm r, List.length_cons, Nat.succ_mul, Nat.add_comm]
theorem flatE_get (hm : ∀ x, (enc x).length = m) : ∀ {l : List α} {i : Nat} {x : α} {j : Nat} {u : Value}, l[i]? = some x → (enc x)[j]? = some u → (flatE enc l)[i * m + j]? = some u
  | [], i, x, j, u, h, _ => by simp at h
  | y :: r, 0, x, j, u, h, hu => by
    simp at h
    subst h
    show (enc y ++ flatE enc r)[0 * m + j]? = some u
    rw [Nat.zero_mul, Nat.zero_add, List.getElem?_append_left (List.getElem?_eq_some_iff.1 hu).1]
    exact hu
  | y :: r, i + 1, x, j, u, h, hu => by
    show (enc y ++ flatE enc r)[(i + 1) * m + j]? = some u
    have e : (i + 1) * m + j = (enc y).length + (i * m + j) := by rw [hm, Nat.succ_mul]; omega
    rw [e, List.getElem?_append_right (Nat.le_add_right _ _), Nat.add_sub_cancel_left]
    exact flatE_get hm (by simpa using h) hu
theorem flatE_snoc (l : List α) (x : α) : flatE enc (l ++ [x]) = flatE enc l ++ enc x := by simp [flatE]
theorem flatE_append (l r : List α) : flatE enc (l ++ r) = flatE enc l ++ flatE enc r := by simp [flatE]
theorem flatE_take (hm : ∀ x, (enc x).length = m) (l : List α) (k : Nat) : (flatE enc l).take (k * m) = flatE enc (l.take k) := by
  have h : l = l.take k ++ l.drop k := (List.take_append_drop k l).symm
  by_cases hk : k ≤ l.length
  · have e : flatE enc l = flatE enc (l.take k) ++ flatE enc (l.drop k) := by rw [← flatE_append, List.take_append_drop]
    rw [e, List.take_left' (by rw [flatE_length hm, List.length_take, Nat.min_eq_left hk])]
  · rw [List.take_of_length_le (by rw [flatE_length hm]; exact Nat.mul_le_mul_right _ (by omega)), List.take_of_length_le (by omega)]
/-- A slice reads as these. -/
def RdE (enc : α → List Value) (m : Nat) (w : World) (a : Option Addr) (n cap : Nat) (l : List α) : Prop := n = l.length ∧ Rd w a n cap m (flatE enc l)
theorem RdE.below (h : RdE enc m w a n cap l) (hb : Below w.heap.size w w') : RdE enc m w' a n cap l := ⟨h.1, h.2.below hb⟩
theorem RdE.at (hm : ∀ x, (enc x).length = m) (h : RdE enc m w a n cap l) {i : Nat} {x : α} (hi : l[i]? = some x) (h0 : 0 < m) :
    ∃ b off, a = some ⟨b, off, none⟩ ∧ ∀ j u, (enc x)[j]? = some u → w.cell? ⟨b, off + i * m + j, none⟩ = some u := by
  obtain ⟨rfl, hr⟩ := h
  have hlt := (List.getElem?_eq_some_iff.1 hi).1
  obtain ⟨b, off, ha, _, hc⟩ := hr.at (Nat.mul_pos (by omega) h0)
  refine ⟨b, off, ha, fun j u hu => ?_⟩
  rw [Nat.add_assoc]
  exact hc _ _ (flatE_get hm hi hu)
theorem RdE.len (h : RdE enc m w a n cap l) : n ≤ maxLen := Nat.le_trans h.2.1 h.2.2.1
/-- A slice that owns these. -/
def OwnE (enc : α → List Value) (m : Nat) (w : World) (base : Nat) (e : TypeId) (v : Value) (l : List α) : Prop := w.ownsRow base e m v l.length (flatE enc l)
theorem OwnE.nil (w : World) (base : Nat) (e : TypeId) : OwnE enc m w base e (.slice none 0 0) [] := World.ownsRow_nil _ _ _ _
theorem OwnE.rd {base : Nat} {e : TypeId} {v : Value} (h : OwnE enc m w base e v l) : ∃ a cap, v = .slice a l.length cap ∧ RdE enc m w a l.length cap l := by
  obtain ⟨a, cap, hv, hr⟩ := Rd.of_own h
  exact ⟨a, cap, hv, rfl, hr⟩
theorem OwnE.alloc {base : Nat} {e : TypeId} {v : Value} (h : OwnE enc m w base e v l) (o : Obj) : OwnE enc m (w.alloc o) base e v l := World.ownsRow.alloc h o
end
end Go.Proofs.YtalpbphfmelhhaaGreatDoor

/-! ### A region that draws its order, whose last operations (from number n on) come in one order behind all others: in the head loads are taken first where they yield the same in every world that meets S; S is shown anew behind each operation of the head that makes memory or calls; the tail is a plain walk. No Go text in sight. -/
namespace Go.Proofs.YtalpbphfmelhhaaGreatDoor
open Go.RowKit

section
variable {P : Program} {ops : Array Oper} {Q : Exit → Act → World → Prop} {md : Region.Mode} {S : World → Prop} {n : Nat} {L : Array Bool → Act → World → Prop}

/-- Whatever order is picked in the head, S holding behind each operation; then L. -/
def wpAnyK (P : Program) (md : Region.Mode) (ops : Array Oper) (Q : Exit → Act → World → Prop) (S : World → Prop) (n : Nat) (L : Array Bool → Act → World → Prop) : Nat → Array Bool → Act → World → Prop
  | 0, listed, a, w => L listed a w
  | f + 1, listed, a, w => Region.ready md ops listed ≠ [] ∧ ∀ i ∈ Region.ready md ops listed, i < n ∧ wpOp P ops Q i (fun a' w' => S w' ∧ wpAnyK P md ops Q S n L f (listed.setIfInBounds i true) a' w') a w

theorem wpAny_of_K {g : Nat} (hL : ∀ listed a w, L listed a w → wpAny P md ops Q g listed a w) : ∀ (f : Nat) (listed : Array Bool) (a : Act) (w : World), wpAnyK P md ops Q S n L f listed a w → wpAny P md ops Q (f + g) listed a w
  | 0, _, _, _, h => by rw [Nat.zero_add]; exact hL _ _ _ h
  | f + 1, listed, a, w, h => by
    rw [show f + 1 + g = (f + g) + 1 by omega]
    exact ⟨fun h0 => absurd h0 h.1, fun i hi => wpOp_mono (fun a' w' h' => wpAny_of_K hL f _ a' w' h'.2) (h.2 i hi).2⟩

theorem wpAnyK_first {i : Nat} {oi : Oper} {v : Value} (hi : ops[i]? = some oi) (hsel : ∀ (j : Nat) (o : Oper) cs b, ops[j]? = some o → o.op ≠ .select cs b)
    (hQ : ∀ c a w, Q (.panic c) (a.put oi.dst v) w → Q (.panic c) a w) (hs : Region.sinkB md ops n = true) (hc : Region.chainB md ops n = true) (hn : n < ops.size) (hin : i < n)
    (hdone : ∀ listed a w, L listed a w → ∀ j ∈ Region.ready md ops listed, n ≤ j) :
    ∀ (f : Nat) (listed : Array Bool) (a : Act) (w : World), HeadInv md ops n listed →
      (∀ j oj, ops[j]? = some oj → j ≠ i → listed.getD j true = false → (∀ e ∈ oj.after, Region.binds md e = true → e.on ≠ i) → oi.apart ops oj = true) →
      i ∈ Region.ready md ops listed → YieldsIf P ops S oi v a → S w →
      wpAnyK P md ops Q S n L f (listed.setIfInBounds i true) (a.put oi.dst v) w → wpAnyK P md ops Q S n L (f + 1) listed a w := by
  intro f
  induction f with
  | zero =>
    intro listed a w inv _ hr hy hS H
    have hun := (mem_ready.1 hr).1
    refine ⟨fun h => (by rw [h] at hr; cases hr), fun j hj => ?_⟩
    have hjn : j < n := by
      rcases Nat.lt_or_ge j n with h | h
      · exact h
      · exact absurd hj (tail_waits hs hc hn inv _ i rfl hin hun j h)
    refine ⟨hjn, ?_⟩
    by_cases hji : j = i
    · subst hji; exact hy.wpOp hi hS ⟨hS, H⟩
    · have := hdone _ _ _ H j (ready_mono hj hji)
      omega
  | succ f ih =>
    intro listed a w inv hfree hr hy hS H
    have hun := (mem_ready.1 hr).1
    refine ⟨fun h => (by rw [h] at hr; cases hr), fun j hj => ?_⟩
    have hjn : j < n := by
      rcases Nat.lt_or_ge j n with h | h
      · exact h
      · exact absurd hj (tail_waits hs hc hn inv _ i rfl hin hun j h)
    refine ⟨hjn, ?_⟩
    by_cases hji : j = i
    · subst hji; exact hy.wpOp hi hS ⟨hS, H⟩
    · have h1 := (H.2 j (ready_mono hj hji)).2
      obtain ⟨hjun, oj, hoj, hall⟩ := mem_ready.1 hj
      have hnot : ∀ e ∈ oj.after, Region.binds md e = true → e.on ≠ i := fun e he hb heq => by
        have h1 := hall e he hb
        rw [heq, getD_both hun] at h1
        cases h1
      have h2 := wpOp_putIf hoj (hfree j oj hoj hji hjun hnot) (fun cs b => hsel i oi cs b hi) (fun cs b => hsel j oj cs b hoj) hQ hy h1
      have hfree' : ∀ k ok, ops[k]? = some ok → k ≠ i → (listed.setIfInBounds j true).getD k true = false →
          (∀ e ∈ ok.after, Region.binds md e = true → e.on ≠ i) → oi.apart ops ok = true := fun k ok hk hki hun hno => by
        refine hfree k ok hk hki ?_ hno
        by_cases hjk : j = k
        · subst hjk; exact hjun
        · rw [getD_set_ne true hjk] at hun; exact hun
      refine wpOp_mono (fun a' w' h3 => ⟨h3.2.1, ih (listed.setIfInBounds j true) a' w' (inv.set hj hjn) hfree' (ready_mono hr (Ne.symm hji)) h3.1 h3.2.1 ?_⟩) h2
      rw [Array.setIfInBounds_comm _ _ hji]
      exact h3.2.2

/-- What the order asks of the region. -/
def tailB (md : Region.Mode) (ops : Array Oper) (n : Nat) : Bool := Region.noSelect ops && decide (n < ops.size) && Region.sinkB md ops n && Region.chainB md ops n
/-- The walk of the head: 'l' are the region's operations. -/
def wpHT (P : Program) (md : Region.Mode) (l : List Oper) (Q : Exit → Act → World → Prop) (S : World → Prop) (n : Nat) (f : Nat) (listed : Array Bool) (a : Act) (w : World) : Prop :=
  HeadInv md l.toArray n listed → wpAnyK P md l.toArray Q S n (fun listed a w => Region.seqB md l.toArray (l.length - n) n listed = true ∧ wpList P l.toArray Q (l.drop n) a w) f listed a w

variable {l : List Oper}
theorem wpHT_take {i : Nat} {oi : Oper} {v : Value} {f : Nat} {listed : Array Bool} {a : Act} {w : World} (hB : tailB md l.toArray n = true) (hi : l.toArray[i]? = some oi) (hin : i < n)
    (hf : Region.free md l.toArray listed i = true) (hr : (Region.ready md l.toArray listed).contains i = true)
    (hQ : ∀ c a w, Q (.panic c) (a.put oi.dst v) w → Q (.panic c) a w) (hy : YieldsIf P l.toArray S oi v a) (hS : S w)
    (h : wpHT P md l Q S n f (listed.setIfInBounds i true) (a.put oi.dst v) w) : wpHT P md l Q S n (f + 1) listed a w := by
  simp only [tailB, Bool.and_eq_true, decide_eq_true_eq] at hB
  obtain ⟨⟨⟨hsel, hn⟩, hs⟩, hc⟩ := hB
  intro inv
  have hr' : i ∈ Region.ready md l.toArray listed := by simpa using hr
  exact wpAnyK_first hi (Region.noSelect_spec hsel) hQ hs hc hn hin (fun listed' a' w' hL => seqB_ready hL.1) f listed a w inv (Region.free_spec hi hf) hr' hy hS (h (inv.set hr' hin))
/-- A take of an operation whose slot is written out. -/
theorem wpHT_takeD {i d : Nat} {oi : Oper} {v : Value} {f : Nat} {listed : Array Bool} {a : Act} {w : World} (hB : tailB md l.toArray n = true) (hi : l.toArray[i]? = some oi) (hd : oi.dst = some d) (hin : i < n)
    (hf : Region.free md l.toArray listed i = true) (hr : (Region.ready md l.toArray listed).contains i = true)
    (hQ : ∀ c a w, Q (.panic c) (a.put oi.dst v) w → Q (.panic c) a w) (hy : YieldsIf P l.toArray S oi v a) (hS : S w)
    (h : wpHT P md l Q S n f (listed.setIfInBounds i true) (a.put (some d) v) w) : wpHT P md l Q S n (f + 1) listed a w :=
  wpHT_take hB hi hin hf hr hQ hy hS (by rw [hd]; exact h)
/-- One operation that makes memory or calls, where it alone may come up. -/
theorem wpHT_one {i : Nat} {o : Oper} {f : Nat} {listed : Array Bool} {a : Act} {w : World} (hr : Region.ready md l.toArray listed = [i]) (ho : l.toArray[i]? = some o) (hin : i < n)
    (h : ∀ K' : Act → World → Prop, Shut (∀ a w, S w → (S w → wpHT P md l Q S n f (listed.setIfInBounds i true) a w) → K' a w) → if Region.wanted o (yielded l.toArray a.tmps) = true then Oper.wp P o a w K' Q else K' (a.put o.dst undef) w) :
    wpHT P md l Q S n (f + 1) listed a w := by
  intro inv
  refine ⟨by rw [hr]; simp, fun j hj => ?_⟩
  have hi : i ∈ Region.ready md l.toArray listed := by rw [hr]; simp
  rw [hr] at hj
  obtain rfl : j = i := by simpa using hj
  exact ⟨hin, wpOp_step ho fun K' hK => h K' fun a w hS hW => hK a w ⟨hS, hW hS (inv.set hi hin)⟩⟩
theorem wpHT_done {listed : Array Bool} {a : Act} {w : World} (hr : Region.seqB md l.toArray (l.length - n) n listed = true) (h : wpList P l.toArray Q (l.drop n) a w) : wpHT P md l Q S n 0 listed a w := fun _ => ⟨hr, h⟩
theorem wp_region_ht {id : Nat} {a : Act} {w : World} (n : Nat) (S : World → Prop) (hm : P.follows .mixedOrders = true) (hB : tailB .any l.toArray n = true) (hS : S w.drew)
    (h : S w.drew → wpHT P .any l Q S n n (Array.replicate l.toArray.size false) a w.drew) : (Code.region id l.toArray true).wp P Q a w := by
  have hB' := hB
  simp only [tailB, Bool.and_eq_true, decide_eq_true_eq] at hB'
  obtain ⟨⟨⟨hsel, hn⟩, hs⟩, hc⟩ := hB'
  have inv0 : HeadInv .any l.toArray n (Array.replicate l.toArray.size false) :=
    ⟨by simp, fun j oj _ hl => (by rw [getD_replicate_false] at hl; cases hl), fun t _ ht => getD_in (by simpa using ht) (getD_replicate_false _ _)⟩
  refine wp_region_any hm ?_
  have hn' : n < l.length := by simpa using hn
  have := wpAny_of_K (g := l.length - n) (Q := Q) (fun listed a' w' hL => by
    have := wpAny_of_seq (md := .any) (ops := l.toArray) (Q' := Q) (l.drop n) n listed a' w' (fun j => by simp [List.getElem?_drop]) (by rw [List.length_drop]; exact hL.1) hL.2
    rwa [List.length_drop] at this) _ _ _ _ (h hS inv0)
  rw [show n + (l.length - n) = l.toArray.size by simp; omega] at this
  exact this
end
theorem cell_alloc_keep {w : World} {o : Obj} {a : Addr} {v : Value} (h : w.cell? a = some v) : (w.alloc o).cell? a = some v := by
  rw [World.cell?_alloc_lt _ _ _ (World.block_lt_of_cell? w a h)]; exact h
end Go.Proofs.YtalpbphfmelhhaaGreatDoor
