/-
 Frames by sets of blocks: all blocks outside a set are as they were. No Go text in sight.
-/
import Derived.Test.YtjjcilinghgphaaGreatK1
import Derived.Maps.AppendAt
import Derived.WalkSmall
import Derived.Lib.AppendStr
namespace Go.Proofs.YtjjcilinghgphaaGreat
open Go.RowKit

/-- Blocks outside S are as they were; the streams are; no block has gone. -/
structure Fr (S : Nat → Prop) (w w' : World) : Prop where
 os : w'.os = w.os
 tape : w'.tape = w.tape
 output : w'.output = w.output
 size : w.heap.size ≤ w'.heap.size
 block : ∀ k, k < w.heap.size → ¬ S k → w'.heap[k]? = w.heap[k]?

theorem Fr.refl (S : Nat → Prop) (w : World) : Fr S w w := ⟨rfl, rfl, rfl, Nat.le_refl _, fun _ _ _ => rfl⟩
theorem Fr.trans' {S S' T : Nat → Prop} {a b c : World} (h : Fr S a b) (k : Fr S' b c) (h1 : ∀ k, k < a.heap.size → S k → T k) (h2 : ∀ k, k < a.heap.size → S' k → T k) : Fr T a c :=
 ⟨k.os.trans h.os, k.tape.trans h.tape, k.output.trans h.output, Nat.le_trans h.size k.size, fun i hi hn =>
  (k.block i (Nat.lt_of_lt_of_le hi h.size) (fun hs => hn (h2 i hi hs))).trans (h.block i hi (fun hs => hn (h1 i hi hs)))⟩
theorem Fr.trans {S : Nat → Prop} {a b c : World} (h : Fr S a b) (k : Fr S b c) : Fr S a c := h.trans' k (fun _ _ h => h) (fun _ _ h => h)
theorem Fr.mono {S T : Nat → Prop} {a b : World} (h : Fr S a b) (h1 : ∀ k, k < a.heap.size → S k → T k) : Fr T a b :=
 ⟨h.os, h.tape, h.output, h.size, fun i hi hn => h.block i hi fun hs => hn (h1 i hi hs)⟩
theorem Fr.of_below {B : Nat} {a b : World} (h : Below B a b) : Fr (fun k => B ≤ k) a b := ⟨h.os, h.tape, h.output, h.size, fun i _ hn => h.block i (by omega)⟩
/-- A call that changes nothing that was there. -/
theorem Fr.of_new {S : Nat → Prop} {a b : World} (h : Below a.heap.size a b) : Fr S a b := ⟨h.os, h.tape, h.output, h.size, fun i hi _ => h.block i hi⟩
theorem Fr.below {S : Nat → Prop} {a b : World} (h : Fr S a b) {B : Nat} (hB : B ≤ a.heap.size) (hn : ∀ k, k < B → ¬ S k) : Below B a b :=
 ⟨h.os, h.tape, h.output, h.size, fun k hk => h.block k (by omega) (hn k hk)⟩
theorem Fr.alloc {S : Nat → Prop} {a b : World} (h : Fr S a b) (o : Obj) : Fr S a (b.alloc o) := h.trans (Fr.of_new ((Below.refl _ _).alloc (Nat.le_refl _) o))
theorem Fr.drewN {S : Nat → Prop} {a b : World} (h : Fr S a b) (n : Nat) : Fr S a (b.drewN n) := h.trans ⟨rfl, rfl, rfl, Nat.le_refl _, fun _ _ _ => rfl⟩
theorem Fr.drew {S : Nat → Prop} {a b : World} (h : Fr S a b) : Fr S a b.drew := ⟨h.os, h.tape, h.output, h.size, h.block⟩
theorem Fr.setCell {S : Nat → Prop} {a b : World} (h : Fr S a b) {p : Addr} (hp : p.block < a.heap.size → S p.block) (u : Value) : Fr S a (b.setCell p u) :=
 ⟨h.os, h.tape, h.output, by simp [World.setCell]; exact h.size, fun i hi hn => by
  rw [Below.heap_setCell b p u i (fun e => hn (by subst e; exact hp hi))]; exact h.block i hi hn⟩
theorem Fr.grown {S : Nat → Prop} {a b c : World} {row : Option Nat} (h : Fr S a b) (hg : b.grownBy c row) (hr : ∀ k, k < a.heap.size → row = some k → S k) : Fr S a c :=
 ⟨hg.os.trans h.os, hg.tape.trans h.tape, hg.output.trans h.output, Nat.le_trans h.size hg.size, fun i hi hn =>
  (hg.block i (Nat.lt_of_lt_of_le hi h.size) (fun e => hn (hr i hi e.symm))).trans (h.block i hi hn)⟩
theorem Fr.cell {S : Nat → Prop} {a b : World} (h : Fr S a b) {p : Addr} (hp : p.block < a.heap.size) (hn : ¬ S p.block) : b.cell? p = a.cell? p := World.cell?_of_block (w := a) (h.block p.block hp hn)
theorem Fr.frozen {S : Nat → Prop} {a b : World} (h : Fr S a b) {p : Addr} (hp : p.block < a.heap.size) (hn : ¬ S p.block) : b.frozen? p = a.frozen? p := World.frozen?_of_block (w := a) (h.block p.block hp hn)

theorem Rd.keep {w w' : World} {a : Option Addr} {n cap size : Nat} {xs : List Value} (h : Rd w a n cap size xs) (hk : ∀ b o, a = some ⟨b, o, none⟩ → b < w.heap.size → w'.heap[b]? = w.heap[b]?) : Rd w' a n cap size xs := by
 obtain ⟨h1, h2, h0, h3, h4⟩ := h
 refine ⟨h1, h2, h0, h3, fun j u hj => ?_⟩
 obtain ⟨b, off, ha, hc⟩ := h4 j u hj
 refine ⟨b, off, ha, ?_⟩
 have hlt := World.block_lt_of_cell? w _ hc
 rw [World.cell?_of_block (w := w) (a := ⟨b, off + j, none⟩) (hk b off ha hlt)]; exact hc
/-- The block of a slice's elements. -/
def blk (a : Option Addr) : Option Nat := a.map (·.block)
theorem Rd8.keep {S : Nat → Prop} {w w' : World} {a : Option Addr} {n cap : Nat} {l : List UInt8} (h : Rd8 w a n cap l) (hf : Fr S w w') (hk : ∀ b, blk a = some b → ¬ S b) : Rd8 w' a n cap l :=
 ⟨h.1, h.2.keep fun b o ha hb => hf.block b hb (hk b (by rw [ha]; rfl))⟩
theorem ownsRow_keep {w w' : World} {base : Nat} {e : TypeId} {size : Nat} {v : Value} {n : Nat} {xs : List Value} (h : w.ownsRow base e size v n xs) (hk : ∀ k, v.ownBlock = some k → w'.heap[k]? = w.heap[k]?) : w'.ownsRow base e size v n xs := by
 obtain ⟨h1, h2⟩ := h
 refine ⟨h1, ?_⟩
 rcases h2 with h2 | ⟨g, cap, cur, hv, hb, hg, r⟩
 · exact .inl h2
 · refine .inr ⟨g, cap, cur, hv, hb, ?_, r⟩
   rw [hk g (by rw [hv]; rfl)]; exact hg
theorem Own8.keep {S : Nat → Prop} {w w' : World} {base : Nat} {e : TypeId} {v : Value} {l : List UInt8} (h : Own8 w base e v l) (hf : Fr S w w') (hk : ∀ k, v.ownBlock = some k → ¬ S k) : Own8 w' base e v l :=
 ownsRow_keep h fun k hv => hf.block k (World.ownsRow.lt h k hv).2 (hk k hv)

/-! ### append, and where the new slice lies -/
theorem wpList_app2 {P : Program} {t e : TypeId} {z : Value} {size bytes : Nat} (S : STy P t e z size bytes) {w : World} {ops : Array Oper} {rest : List Oper} {o : Oper} {a : Act} {Q : Exit → Act → World → Prop}
 (hgd : o.guard = none) (s x : Operand) (ho : o.op = .call { callee := .builtin .append, args := #[s, x], argTypes := #[t, t] })
 (base : Nat) {v : Value} {n : Nat} {xs : List Value} (hs : a.eval s = v) (hown : w.ownsRow base e size v n xs)
 {ad : Option Addr} {m c : Nat} {news : List Value} (hx : a.eval x = .slice ad m c) (hr : Rd w ad m c size news) (h1 : ∀ u ∈ news, u.oneCell' = true)
 (hbytes : (n + m) * bytes ≤ 140737488355328) (h63 : n + m ≤ maxLen) (hbase : base ≤ w.heap.size)
 (hK : ∀ v' w', w'.ownsRow base e size v' (n + m) (xs ++ news) → w.grownBy w' v.ownBlock → (v'.ownBlock = v.ownBlock ∨ v'.ownBlock = some w.heap.size) → wpList P ops Q rest (a.put o.dst v') w') : wpList P ops Q (o :: rest) a w := by
 obtain ⟨i, hi0, hi1, hi2, hi3⟩ := S.info
 by_cases hm : m = 0
 · subst hm
   have hnil : news = [] := List.eq_nil_of_length_eq_zero (by simpa using hr.2.2.2.1)
   subst hnil
   cases ad with
   | none =>
    have hc : c = 0 := hr.2.2.1 rfl
    subst hc
    have hrun : ∀ ty, (Builtin.append_ #[t, t] ty #[v, .slice none 0 0]).run P w = .ok v w := fun ty =>
     run_append_owned_none (P := P) (w := w) base t ty e i size S.ht hi0 v n xs hown
    refine wpList_plain hgd fun K hK' => ?_
    have hk := hK' _ _ (hK v w (by simpa using hown) (World.grownBy.refl _ _) (.inl rfl))
    unfold Oper.wp
    simp [execOp, ho, resolve, invoke, builtin, hs, hx, hrun, Result.andThen]
    exact hk
   | some ad =>
    exact wpList_append_own_at w hgd s x t ho base e i z size bytes S.ht hi0 hi1 hi2 hi3 S.zs S.pos v n xs hs hown ad 0 c [] hx (by simp) (by simp) (by simp) h63 hbytes hbase
     fun v' w' h2 h3 _ h5 => hK v' w' h2 h3 h5
 · obtain ⟨b, off, rfl, hb, hcell⟩ := hr.at (Nat.mul_pos (by omega) S.pos)
   exact wpList_append_own_at w hgd s x t ho base e i z size bytes S.ht hi0 hi1 hi2 hi3 S.zs S.pos v n xs hs hown _ m c news hx hr.2.2.2.1
    (fun j u hj => by rw [Addr.add_none]; exact hcell j u hj) h1 h63 hbytes hbase fun v' w' h2 h3 _ h5 => hK v' w' h2 h3 h5
/-- append of a string's bytes. -/
theorem wpList_appS {P : Program} {t u e : TypeId} (S : STy P t e (.int .u8 0) 1 1) (hu : P.underlying u = some .string) {w : World} {ops : Array Oper} {rest : List Oper} {o : Oper} {a : Act} {Q : Exit → Act → World → Prop}
 (hgd : o.guard = none) (s x : Operand) (ho : o.op = .call { callee := .builtin .append, args := #[s, x], argTypes := #[t, u] })
 (base : Nat) {v : Value} {l : List UInt8} (hs : a.eval s = v) (hown : Own8 w base e v l) {m : List UInt8} (hx : a.eval x = .string (bs m))
 (hbytes : l.length + m.length ≤ 1000000000) (hbase : base ≤ w.heap.size)
 (hK : ∀ v' w', Own8 w' base e v' (l ++ m) → w.grownBy w' v.ownBlock → wpList P ops Q rest (a.put o.dst v') w') : wpList P ops Q (o :: rest) a w := by
 obtain ⟨i, hi0, hi1, hi2, hi3⟩ := S.info
 have hsz := bs_size m
 refine Lib.wpList_append_own_string w hgd s x t u ho base e i S.ht hu hi0 hi1 hi2 hi3 v _ _ hs hown (bs m) hx (by rw [hsz]; simp [maxLen]; omega) (by rw [hsz]; omega) hbase fun v' w' h2 h3 _ => hK v' w' ?_ h3
 exact Own8.mk h2 (by rw [hsz, List.length_append]) (by rw [B8_append]; simp [Lib.strCells, B8, bs, n8])
end Go.Proofs.YtjjcilinghgphaaGreat
