/-
  The laws' operations in memory; Does. Written by a program (e15gen.py).
-/
import Derived.Test.YtdbfkneklkdnaaaE14
namespace Go.Proofs.Ytdbfkneklkdnaaa
open Go.RowKit Go.Maps Go.Sort
set_option maxRecDepth 100000
attribute [local go_sem] bs_size bs_toList

/-- What is done. -/
structure OpV where
  k : Int
  n : Int
  nm : List UInt8
  tn : List UInt8
  b : List UInt8
  p : List Int
def doesS (s : DS) (o : OpV) : DS × Int :=
  if o.k = 1 then createS s o.nm else if o.k = 2 then appendS s o.nm o.b else if o.k = 3 then syncS s o.nm else if o.k = 4 then cutS s o.nm o.n else if o.k = 5 then renameS s o.nm o.tn else if o.k = 6 then removeS s o.nm else
  if o.k = 7 then (armS s o.n, 0) else if o.k = 8 then (crashS s o.p, 0) else if o.k = 9 then (s, hasE s o.nm) else (s, 0)
def OpWf (o : OpV) : Prop := (-9223372036854775808 ≤ o.k ∧ o.k ≤ 9223372036854775807) ∧ (-9223372036854775808 ≤ o.n ∧ o.n ≤ 9223372036854775807) ∧ o.nm.length ≤ 9223372036854775807 ∧ o.tn.length ≤ 9223372036854775807
def opCells (o : OpV) (ab : Option Addr) (cb : Nat) (ap : Option Addr) (cp : Nat) : List Value := [.int .i64 o.k, .int .i64 o.n, .string (bs o.nm), .string (bs o.tn), .slice ab o.b.length cb, .slice ap o.p.length cp]
/-- An operation that reads. -/
def OpRd (w : World) (T : Nat → Prop) (o : OpV) (ab : Option Addr) (cb : Nat) (ap : Option Addr) (cp : Nat) : Prop :=
  OpWf o ∧ Rd8 w ab o.b.length cb o.b ∧ RdI w ap o.p.length cp o.p ∧ BlkIn ab o.b.length T ∧ BlkIn ap o.p.length T
theorem OpRd.keep {S T : Nat → Prop} {w w' : World} {o : OpV} {ab : Option Addr} {cb : Nat} {ap : Option Addr} {cp : Nat} (h : OpRd w T o ab cb ap cp) (hf : Fr S w w') (hn : ∀ b, T b → ¬ S b) : OpRd w' T o ab cb ap cp :=
  ⟨h.1, h.2.1.keep0 hf fun h0 b hb => hn b (h.2.2.2.1 h0 b hb), h.2.2.1.keep hf fun h0 b hb => hn b (h.2.2.2.2 h0 b hb), h.2.2.2⟩
theorem OpRd.below {T : Nat → Prop} {w w' : World} {o : OpV} {ab : Option Addr} {cb : Nat} {ap : Option Addr} {cp : Nat} (h : OpRd w T o ab cb ap cp) (hb : Below w.heap.size w w') : OpRd w' T o ab cb ap cp :=
  ⟨h.1, h.2.1.below hb, h.2.2.1.below hb, h.2.2.2⟩
/-- A list of operations that reads. -/
def RdOps (w : World) (T : Nat → Prop) (a : Option Addr) (n cap : Nat) (os : List OpV) : Prop :=
  n = os.length ∧ BlkIn a n T ∧ ∃ xs, Rd w a n cap 6 xs ∧ ∀ (i : Nat) (o : OpV), os[i]? = some o → ∃ ab cb ap cp, (∀ (j : Nat) (u : Value), (opCells o ab cb ap cp)[j]? = some u → xs[i * 6 + j]? = some u) ∧ OpRd w T o ab cb ap cp
theorem RdOps.keep {S T : Nat → Prop} {w w' : World} {a : Option Addr} {n cap : Nat} {os : List OpV} (h : RdOps w T a n cap os) (hf : Fr S w w') (hn : ∀ b, T b → ¬ S b) : RdOps w' T a n cap os := by
  obtain ⟨h1, h2, xs, h3, h4⟩ := h
  refine ⟨h1, h2, xs, h3.keep0 hf fun h0 b hb => hn b (h2 h0 b hb), fun i o ho => ?_⟩
  obtain ⟨ab, cb, ap, cp, hc, hr⟩ := h4 i o ho
  exact ⟨ab, cb, ap, cp, hc, hr.keep hf hn⟩
theorem RdOps.below {T : Nat → Prop} {w w' : World} {a : Option Addr} {n cap : Nat} {os : List OpV} (h : RdOps w T a n cap os) (hb : Below w.heap.size w w') : RdOps w' T a n cap os := by
  obtain ⟨h1, h2, xs, h3, h4⟩ := h
  refine ⟨h1, h2, xs, h3.below hb, fun i o ho => ?_⟩
  obtain ⟨ab, cb, ap, cp, hc, hr⟩ := h4 i o ho
  exact ⟨ab, cb, ap, cp, hc, hr.below hb⟩
theorem RdOps.at {w : World} {T : Nat → Prop} {a : Option Addr} {n cap : Nat} {os : List OpV} (h : RdOps w T a n cap os) {k : Nat} {o : OpV} (ho : os[k]? = some o) :
    ∃ b off ab cb ap cp, a = some ⟨b, off, none⟩ ∧ OpRd w T o ab cb ap cp ∧ w.cell? ⟨b, off + k * 6, none⟩ = some (.int .i64 o.k) ∧ w.cell? ⟨b, off + k * 6 + 1, none⟩ = some (.int .i64 o.n) ∧ w.cell? ⟨b, off + k * 6 + 2, none⟩ = some (.string (bs o.nm)) ∧
      w.cell? ⟨b, off + k * 6 + 3, none⟩ = some (.string (bs o.tn)) ∧ w.cell? ⟨b, off + k * 6 + 4, none⟩ = some (.slice ab o.b.length cb) ∧ w.cell? ⟨b, off + k * 6 + 5, none⟩ = some (.slice ap o.p.length cp) := by
  obtain ⟨rfl, h2, xs, h3, h4⟩ := h
  have hk : k < os.length := (List.getElem?_eq_some_iff.1 ho).1
  obtain ⟨ab, cb, ap, cp, hc, hr⟩ := h4 k o ho
  obtain ⟨b, off, rfl, _, hcell⟩ := h3.at (by omega)
  refine ⟨b, off, ab, cb, ap, cp, rfl, hr, hcell _ _ (hc 0 _ rfl), ?_, ?_, ?_, ?_, ?_⟩
  · rw [Nat.add_assoc]; exact hcell _ _ (hc 1 _ rfl)
  · rw [Nat.add_assoc]; exact hcell _ _ (hc 2 _ rfl)
  · rw [Nat.add_assoc]; exact hcell _ _ (hc 3 _ rfl)
  · rw [Nat.add_assoc]; exact hcell _ _ (hc 4 _ rfl)
  · rw [Nat.add_assoc]; exact hcell _ _ (hc 5 _ rfl)

/-! ### bytes that are written over -/
/-- n bytes that may be written. -/
def WrB (w : World) (a : Option Addr) (n : Nat) : Prop := n = 0 ∨ ∃ r cur, a = some ⟨r, 0, none⟩ ∧ w.heap[r]? = some (.cells cur 5 (0, 0)) ∧ n ≤ cur.size
theorem WrB.of_own {w : World} {base : Nat} {a : Option Addr} {n cap : Nat} {l : List UInt8} (h : Own8 w base 5 (.slice a n cap) l) (hn : n = l.length) : WrB w a n := by
  rcases h.2 with ⟨h1, h2⟩ | ⟨g, cap', cur, hv, hb, hg, hnc, hcm, hcs, ht⟩
  · exact .inl (by rw [hn, h2])
  · simp at hv
    obtain ⟨rfl, _, rfl⟩ := hv
    exact .inr ⟨g, cur, rfl, hg, by omega⟩
theorem WrB.keep {S : Nat → Prop} {w w' : World} {a : Option Addr} {n : Nat} (h : WrB w a n) (hf : Fr S w w') (hn : ∀ b, blk a = some b → ¬ S b) : WrB w' a n := by
  rcases h with h | ⟨r, cur, rfl, hg, hc⟩
  · exact .inl h
  · exact .inr ⟨r, cur, rfl, (hf.block r (Array.getElem?_eq_some_iff.1 hg).1 (hn r rfl)).trans hg, hc⟩
theorem WrB.at {w : World} {a : Option Addr} {n k : Nat} (h : WrB w a n) (hk : k < n) : ∃ r u, a = some ⟨r, 0, none⟩ ∧ w.cell? ⟨r, k, none⟩ = some u ∧ w.frozen? ⟨r, k, none⟩ = false ∧ ∀ v, WrB (w.setCell ⟨r, k, none⟩ v) a n := by
  rcases h with h | ⟨r, cur, rfl, hg, hc⟩
  · omega
  · have hu : cur[k]? = some cur[k] := Array.getElem?_eq_getElem (by omega)
    refine ⟨r, cur[k], rfl, by rw [cell_of_row w r k _ _ _ hg]; exact hu, frozen_of_row w r k _ _ hg, fun v => .inr ⟨r, cur.setIfInBounds k v, rfl, row_set hg rfl, by simpa using hc⟩⟩

/-- A disk behind a deed and behind writes to a block beside it. -/
theorem Done.beside {B : Int} {w w1 w2 w3 : World} {d : Nat} {S R : Nat → Prop} {s : DS} (h01 : Below w.heap.size w w1) (h : Done B w1 d S s w2) (hf : Fr R w2 w3) (hS : ∀ k, S k → k < w.heap.size) (hR : ∀ k, R k → w.heap.size ≤ k ∧ k < w1.heap.size) : Done B w d S s w3 := by
  obtain ⟨h1, h2⟩ := h
  have e1 := h01.size
  have e2 := h2.size
  have e3 := hf.size
  refine ⟨(h1.keep hf fun k hk hr => ?_).mono (Int.le_refl _) (fun k hk => ?_) (fun k hk => ?_), ?_⟩
  · have := hR k hr
    rcases hk with hk | hk
    · have := hS k hk; omega
    · omega
  · rcases hk with hk | hk
    · exact .inl hk
    · exact .inr ⟨by omega, by omega⟩
  · rcases hk with hk | hk
    · have := hS k hk; omega
    · exact hk.2
  · have a1 : Fr S w w2 := (Fr.of_new h01).trans h2
    exact a1.trans' hf (fun _ _ h => h) (fun k hk h => by have := (hR k h).1; omega)
theorem Done.mono1 {B : Int} {w w' : World} {d : Nat} {S : Nat → Prop} {s : DS} (h : Done B w d S s w') : Done (B + 1) w d S s w' := ⟨h.1.mono (by omega) (fun _ h => h) (fun k hk => h.1.lt k hk), h.2⟩

/-! ### Does -/
theorem opAt (w : World) (o : OpV) (ab : Option Addr) (cb : Nat) (ap : Option Addr) (cp : Nat) : ∃ W, W = w.alloc (.cells (opCells o ab cb ap cp).toArray 32) ∧ Below w.heap.size w W ∧ W.cell? ⟨w.heap.size, 0, none⟩ = some (.int .i64 o.k) ∧ W.cell? ⟨w.heap.size, 1, none⟩ = some (.int .i64 o.n) ∧ W.cell? ⟨w.heap.size, 2, none⟩ = some (.string (bs o.nm)) ∧
    W.cell? ⟨w.heap.size, 3, none⟩ = some (.string (bs o.tn)) ∧ W.cell? ⟨w.heap.size, 4, none⟩ = some (.slice ab o.b.length cb) ∧ W.cell? ⟨w.heap.size, 5, none⟩ = some (.slice ap o.p.length cp) := by
  have hg := heap_alloc_new w (.cells (opCells o ab cb ap cp).toArray 32)
  exact ⟨_, rfl, (Below.refl _ _).alloc (Nat.le_refl _) _, cell_of_row _ _ 0 _ _ _ hg, cell_of_row _ _ 1 _ _ _ hg, cell_of_row _ _ 2 _ _ _ hg, cell_of_row _ _ 3 _ _ _ hg, cell_of_row _ _ 4 _ _ _ hg, cell_of_row _ _ 5 _ _ _ hg⟩
abbrev opV (o : OpV) (ab : Option Addr) (cb : Nat) (ap : Option Addr) (cp : Nat) : Value := .agg #[.int .i64 o.k, .int .i64 o.n, .string (bs o.nm), .string (bs o.tn), .slice ab o.b.length cb, .slice ap o.p.length cp]

set_option maxHeartbeats 1000000 in
theorem does_1 (d : Nat) (S : Nat → Prop) (B : Int) (hB : B < 1000000000000) (s : DS) (o : OpV) (ab : Option Addr) (cb : Nat) (ap : Option Addr) (cp : Nat) (T : Nat → Prop) (_hT : ∀ b, T b → ¬ S b) (_hb : o.b.length ≤ 4194304) (w : World) (h : DkS B w d S s) (ho : OpRd w T o ab cb ap cp) (hk : o.k = 1) :
    Calls Try.prog 13 #[.pointer (some ⟨d, 0, none⟩), opV o ab cb ap cp] w (Told B w d S (doesS s o)) := by
  obtain ⟨W, hW, hbw, c0, c1, c2, c3, c4, c5⟩ := opAt w o ab cb ap cp
  have HB := Lib.hid hbw
  obtain ⟨hwf, hrb, hrp, htb, htp⟩ := ho
  have hdk := h.below hbw
  have HS := Lib.hid h.lt
  have HC := Lib.hid (create_any d S B hB s o.nm hwf.2.2.1 W hdk)
  have hd : doesS s o = createS s o.nm := by unfold doesS; simp [hk]
  rw [hd]
  rw [hk] at c0
  unfold opV
  rw [hk]
  unfold opCells at hW
  rw [hk] at hW
  subst hW
  clear hd hk hdk h hwf hrb hrp htb htp hbw
  go_enter Try.func13, Try.ntmps13
  go_wp2_with (go_at_call 32; ((with_reducible refine (HC.out).mono ?_); rintro e w' ⟨rfl, hd⟩; have HD := Lib.hid hd; clear hd))
  go_ret
  exact ⟨rfl, Done.trans0 (Fr.of_new HB.out) HD.out⟩

set_option maxHeartbeats 1000000 in
theorem does_3 (d : Nat) (S : Nat → Prop) (B : Int) (hB : B < 1000000000000) (s : DS) (o : OpV) (ab : Option Addr) (cb : Nat) (ap : Option Addr) (cp : Nat) (T : Nat → Prop) (_hT : ∀ b, T b → ¬ S b) (_hb : o.b.length ≤ 4194304) (w : World) (h : DkS B w d S s) (ho : OpRd w T o ab cb ap cp) (hk : o.k = 3) :
    Calls Try.prog 13 #[.pointer (some ⟨d, 0, none⟩), opV o ab cb ap cp] w (Told B w d S (doesS s o)) := by
  obtain ⟨W, hW, hbw, c0, c1, c2, c3, c4, c5⟩ := opAt w o ab cb ap cp
  have HB := Lib.hid hbw
  obtain ⟨hwf, hrb, hrp, htb, htp⟩ := ho
  have hdk := h.below hbw
  have HS := Lib.hid h.lt
  have HC := Lib.hid (sync_any d S B hB s o.nm hwf.2.2.1 W hdk)
  have hd : doesS s o = syncS s o.nm := by unfold doesS; simp [hk]
  rw [hd]
  rw [hk] at c0
  unfold opV
  rw [hk]
  unfold opCells at hW
  rw [hk] at hW
  subst hW
  clear hd hk hdk h hwf hrb hrp htb htp hbw
  go_enter Try.func13, Try.ntmps13
  go_wp2_with (go_at_call 14; ((with_reducible refine (HC.out).mono ?_); rintro e w' ⟨rfl, hd⟩; have HD := Lib.hid hd; clear hd))
  go_ret
  exact ⟨rfl, Done.trans0 (Fr.of_new HB.out) HD.out⟩

set_option maxHeartbeats 1000000 in
theorem does_4 (d : Nat) (S : Nat → Prop) (B : Int) (hB : B < 1000000000000) (s : DS) (o : OpV) (ab : Option Addr) (cb : Nat) (ap : Option Addr) (cp : Nat) (T : Nat → Prop) (_hT : ∀ b, T b → ¬ S b) (_hb : o.b.length ≤ 4194304) (w : World) (h : DkS B w d S s) (ho : OpRd w T o ab cb ap cp) (hk : o.k = 4) :
    Calls Try.prog 13 #[.pointer (some ⟨d, 0, none⟩), opV o ab cb ap cp] w (Told B w d S (doesS s o)) := by
  obtain ⟨W, hW, hbw, c0, c1, c2, c3, c4, c5⟩ := opAt w o ab cb ap cp
  have HB := Lib.hid hbw
  obtain ⟨hwf, hrb, hrp, htb, htp⟩ := ho
  have hdk := h.below hbw
  have HS := Lib.hid h.lt
  have HC := Lib.hid (cut_any d S B hB s o.nm hwf.2.2.1 o.n W hdk)
  have hd : doesS s o = cutS s o.nm o.n := by unfold doesS; simp [hk]
  rw [hd]
  rw [hk] at c0
  unfold opV
  rw [hk]
  unfold opCells at hW
  rw [hk] at hW
  subst hW
  clear hd hk hdk h hwf hrb hrp htb htp hbw
  go_enter Try.func13, Try.ntmps13
  go_wp2_with (go_at_call 34; ((with_reducible refine (HC.out).mono ?_); rintro e w' ⟨rfl, hd⟩; have HD := Lib.hid hd; clear hd))
  go_ret
  exact ⟨rfl, Done.trans0 (Fr.of_new HB.out) HD.out⟩

set_option maxHeartbeats 1000000 in
theorem does_5 (d : Nat) (S : Nat → Prop) (B : Int) (hB : B < 1000000000000) (s : DS) (o : OpV) (ab : Option Addr) (cb : Nat) (ap : Option Addr) (cp : Nat) (T : Nat → Prop) (_hT : ∀ b, T b → ¬ S b) (_hb : o.b.length ≤ 4194304) (w : World) (h : DkS B w d S s) (ho : OpRd w T o ab cb ap cp) (hk : o.k = 5) :
    Calls Try.prog 13 #[.pointer (some ⟨d, 0, none⟩), opV o ab cb ap cp] w (Told B w d S (doesS s o)) := by
  obtain ⟨W, hW, hbw, c0, c1, c2, c3, c4, c5⟩ := opAt w o ab cb ap cp
  have HB := Lib.hid hbw
  obtain ⟨hwf, hrb, hrp, htb, htp⟩ := ho
  have hdk := h.below hbw
  have HS := Lib.hid h.lt
  have HC := Lib.hid (rename_any d S B hB s o.nm o.tn hwf.2.2.1 hwf.2.2.2 W hdk)
  have hd : doesS s o = renameS s o.nm o.tn := by unfold doesS; simp [hk]
  rw [hd]
  rw [hk] at c0
  unfold opV
  rw [hk]
  unfold opCells at hW
  rw [hk] at hW
  subst hW
  clear hd hk hdk h hwf hrb hrp htb htp hbw
  go_enter Try.func13, Try.ntmps13
  go_wp2_with (go_at_call 16; ((with_reducible refine (HC.out).mono ?_); rintro e w' ⟨rfl, hd⟩; have HD := Lib.hid hd; clear hd))
  go_ret
  exact ⟨rfl, Done.trans0 (Fr.of_new HB.out) HD.out⟩

set_option maxHeartbeats 1000000 in
theorem does_6 (d : Nat) (S : Nat → Prop) (B : Int) (hB : B < 1000000000000) (s : DS) (o : OpV) (ab : Option Addr) (cb : Nat) (ap : Option Addr) (cp : Nat) (T : Nat → Prop) (_hT : ∀ b, T b → ¬ S b) (_hb : o.b.length ≤ 4194304) (w : World) (h : DkS B w d S s) (ho : OpRd w T o ab cb ap cp) (hk : o.k = 6) :
    Calls Try.prog 13 #[.pointer (some ⟨d, 0, none⟩), opV o ab cb ap cp] w (Told B w d S (doesS s o)) := by
  obtain ⟨W, hW, hbw, c0, c1, c2, c3, c4, c5⟩ := opAt w o ab cb ap cp
  have HB := Lib.hid hbw
  obtain ⟨hwf, hrb, hrp, htb, htp⟩ := ho
  have hdk := h.below hbw
  have HS := Lib.hid h.lt
  have HC := Lib.hid (remove_any d S B hB s o.nm hwf.2.2.1 W hdk)
  have hd : doesS s o = removeS s o.nm := by unfold doesS; simp [hk]
  rw [hd]
  rw [hk] at c0
  unfold opV
  rw [hk]
  unfold opCells at hW
  rw [hk] at hW
  subst hW
  clear hd hk hdk h hwf hrb hrp htb htp hbw
  go_enter Try.func13, Try.ntmps13
  go_wp2_with (go_at_call 35; ((with_reducible refine (HC.out).mono ?_); rintro e w' ⟨rfl, hd⟩; have HD := Lib.hid hd; clear hd))
  go_ret
  exact ⟨rfl, Done.trans0 (Fr.of_new HB.out) HD.out⟩

set_option maxHeartbeats 1000000 in
theorem does_7 (d : Nat) (S : Nat → Prop) (B : Int) (_hB : B < 1000000000000) (s : DS) (o : OpV) (ab : Option Addr) (cb : Nat) (ap : Option Addr) (cp : Nat) (T : Nat → Prop) (_hT : ∀ b, T b → ¬ S b) (_hb : o.b.length ≤ 4194304) (w : World) (h : DkS B w d S s) (ho : OpRd w T o ab cb ap cp) (hk : o.k = 7) :
    Calls Try.prog 13 #[.pointer (some ⟨d, 0, none⟩), opV o ab cb ap cp] w (Told B w d S (doesS s o)) := by
  obtain ⟨W, hW, hbw, c0, c1, c2, c3, c4, c5⟩ := opAt w o ab cb ap cp
  have HB := Lib.hid hbw
  obtain ⟨hwf, hrb, hrp, htb, htp⟩ := ho
  have hdk := h.below hbw
  have HS := Lib.hid h.lt
  have HC := Lib.hid (arm_any d S B s o.n hwf.2.1.2 W hdk)
  have hd : doesS s o = (armS s o.n, 0) := by unfold doesS; simp [hk]
  rw [hd]
  rw [hk] at c0
  unfold opV
  rw [hk]
  unfold opCells at hW
  rw [hk] at hW
  subst hW
  clear hd hk hdk h hwf hrb hrp htb htp hbw
  go_enter Try.func13, Try.ntmps13
  go_wp2_with (go_at_call 36; ((with_reducible refine (HC.out).mono ?_); rintro e w' ⟨rfl, hd⟩; have HD := Lib.hid hd; clear hd))
  go_ret
  exact ⟨rfl, (Done.trans0 (Fr.of_new HB.out) HD.out).mono1⟩

set_option maxHeartbeats 1000000 in
theorem does_8 (d : Nat) (S : Nat → Prop) (B : Int) (_hB : B < 1000000000000) (s : DS) (o : OpV) (ab : Option Addr) (cb : Nat) (ap : Option Addr) (cp : Nat) (T : Nat → Prop) (hT : ∀ b, T b → ¬ S b) (_hb : o.b.length ≤ 4194304) (w : World) (h : DkS B w d S s) (ho : OpRd w T o ab cb ap cp) (hk : o.k = 8) :
    Calls Try.prog 13 #[.pointer (some ⟨d, 0, none⟩), opV o ab cb ap cp] w (Told B w d S (doesS s o)) := by
  obtain ⟨W, hW, hbw, c0, c1, c2, c3, c4, c5⟩ := opAt w o ab cb ap cp
  have HB := Lib.hid hbw
  obtain ⟨hwf, hrb, hrp, htb, htp⟩ := ho
  have hdk := h.below hbw
  have HS := Lib.hid h.lt
  have HC := Lib.hid (crash_any d S B s ap o.p.length cp o.p W hdk (hrp.below hbw) (fun h0 b hb => hT b (htp h0 b hb)))
  have hd : doesS s o = (crashS s o.p, 0) := by unfold doesS; simp [hk]
  rw [hd]
  rw [hk] at c0
  unfold opV
  rw [hk]
  unfold opCells at hW
  rw [hk] at hW
  subst hW
  clear hd hk hdk h hwf hrb hrp htb htp hbw
  go_enter Try.func13, Try.ntmps13
  go_wp2_with (go_at_call 17; ((with_reducible refine (HC.out).mono ?_); rintro e w' ⟨rfl, hd⟩; have HD := Lib.hid hd; clear hd))
  go_ret
  exact ⟨rfl, (Done.trans0 (Fr.of_new HB.out) HD.out).mono1⟩

set_option maxHeartbeats 1000000 in
theorem does_9 (d : Nat) (S : Nat → Prop) (B : Int) (_hB : B < 1000000000000) (s : DS) (o : OpV) (ab : Option Addr) (cb : Nat) (ap : Option Addr) (cp : Nat) (T : Nat → Prop) (_hT : ∀ b, T b → ¬ S b) (_hb : o.b.length ≤ 4194304) (w : World) (h : DkS B w d S s) (ho : OpRd w T o ab cb ap cp) (hk : o.k = 9) :
    Calls Try.prog 13 #[.pointer (some ⟨d, 0, none⟩), opV o ab cb ap cp] w (Told B w d S (doesS s o)) := by
  obtain ⟨W, hW, hbw, c0, c1, c2, c3, c4, c5⟩ := opAt w o ab cb ap cp
  have HB := Lib.hid hbw
  obtain ⟨hwf, hrb, hrp, htb, htp⟩ := ho
  have hdk := h.below hbw
  have HS := Lib.hid h.lt
  have HC := Lib.hid (read_any d S B s o.nm hwf.2.2.1 W hdk)
  have HD := Lib.hid (Done.refl h).mono1
  have hd : doesS s o = (s, hasE s o.nm) := by unfold doesS; simp [hk]
  rw [hd]
  rw [hk] at c0
  unfold opV
  rw [hk]
  unfold opCells at hW
  rw [hk] at hW
  subst hW
  have H0 := Lib.hid h
  clear hd hk hdk h hwf hrb hrp htb htp hbw
  go_enter Try.func13, Try.ntmps13
  go_wp2_with (go_at_call 15; ((with_reducible refine (HC.out).mono ?_); rintro e w' ⟨v, rfl, ho, hb2⟩; have HB2 := Lib.hid hb2; clear ho hb2))
  go_ret
  exact ⟨rfl, Done.mono1 ⟨((H0.out.below HB.out).below HB2.out).mono (Int.le_refl _) (fun _ h => .inl h) (fun k hk => by rcases hk with hk | hk; exact Nat.lt_of_lt_of_le (HS.out k hk) (Nat.le_trans HB.out.size HB2.out.size); exact hk.2), (Fr.of_new HB.out).trans (Fr.of_new HB2.out)⟩⟩

set_option maxHeartbeats 1000000 in
theorem does_0 (d : Nat) (S : Nat → Prop) (B : Int) (_hB : B < 1000000000000) (s : DS) (o : OpV) (ab : Option Addr) (cb : Nat) (ap : Option Addr) (cp : Nat) (T : Nat → Prop) (_hT : ∀ b, T b → ¬ S b) (_hb : o.b.length ≤ 4194304) (w : World) (h : DkS B w d S s) (ho : OpRd w T o ab cb ap cp) (hk : o.k ≠ 1 ∧ o.k ≠ 2 ∧ o.k ≠ 3 ∧ o.k ≠ 4 ∧ o.k ≠ 5 ∧ o.k ≠ 6 ∧ o.k ≠ 7 ∧ o.k ≠ 8 ∧ o.k ≠ 9) :
    Calls Try.prog 13 #[.pointer (some ⟨d, 0, none⟩), opV o ab cb ap cp] w (Told B w d S (doesS s o)) := by
  obtain ⟨W, hW, hbw, c0, c1, c2, c3, c4, c5⟩ := opAt w o ab cb ap cp
  have HB := Lib.hid hbw
  obtain ⟨hwf, hrb, hrp, htb, htp⟩ := ho
  have hdk := h.below hbw
  have HS := Lib.hid h.lt
  have hd : doesS s o = (s, 0) := by unfold doesS; simp [hk]
  rw [hd]
  unfold opCells at hW
  subst hW
  obtain ⟨q1, q2, q3, q4, q5, q6, q7, q8, q9⟩ := hk
  have r1 : (o.k == 1) = false := by simpa using q1
  have r2 : (o.k == 2) = false := by simpa using q2
  have r3 : (o.k == 3) = false := by simpa using q3
  have r4 : (o.k == 4) = false := by simpa using q4
  have r5 : (o.k == 5) = false := by simpa using q5
  have r6 : (o.k == 6) = false := by simpa using q6
  have r7 : (o.k == 7) = false := by simpa using q7
  have r8 : (o.k == 8) = false := by simpa using q8
  have r9 : (o.k == 9) = false := by simpa using q9
  have H0 := Lib.hid h
  clear hd hdk h hwf hrb hrp htb htp hbw q1 q2 q3 q4 q5 q6 q7 q8 q9
  unfold opV
  go_enter Try.func13, Try.ntmps13
  go_wp2_with fail
  go_ret
  exact ⟨rfl, Done.mono1 ⟨(H0.out.below HB.out).mono (Int.le_refl _) (fun _ h => .inl h) (fun k hk => by rcases hk with hk | hk; exact Nat.lt_of_lt_of_le (HS.out k hk) HB.out.size; exact hk.2), Fr.of_new HB.out⟩⟩

set_option maxHeartbeats 1000000 in
theorem does_2 (d : Nat) (S : Nat → Prop) (B : Int) (hB : B < 1000000000000) (s : DS) (o : OpV) (ab : Option Addr) (cb : Nat) (ap : Option Addr) (cp : Nat) (T : Nat → Prop) (_hT : ∀ b, T b → ¬ S b) (hb : o.b.length ≤ 4194304) (w : World) (h : DkS B w d S s) (ho : OpRd w T o ab cb ap cp) (hk : o.k = 2) :
    Calls Try.prog 13 #[.pointer (some ⟨d, 0, none⟩), opV o ab cb ap cp] w (Told B w d S (doesS s o)) := by
  obtain ⟨W, hW, hbw, c0, c1, c2, c3, c4, c5⟩ := opAt w o ab cb ap cp
  have HB := Lib.hid hbw
  obtain ⟨hwf, hrb, hrp, htb, htp⟩ := ho
  have hdk := h.below hbw
  have HS := Lib.hid h.lt
  have HCP := Lib.hid (copyBytes_any ab o.b.length cb o.b W (hrb.below hbw) (by omega))
  have hd : doesS s o = appendS s o.nm o.b := by unfold doesS; simp [hk]
  rw [hd]
  rw [hk] at c0
  unfold opV
  rw [hk]
  have hWs : w.heap.size < W.heap.size := by rw [hW]; simp
  have HWS := Lib.hid hWs
  have HW := Lib.hid hW
  unfold opCells at hW
  rw [hk] at hW
  subst hW
  have HDK := Lib.hid hdk
  have HNM := Lib.hid hwf.2.2.1
  have hb2 := hb
  have hm : o.b.length ≤ 9223372036854775807 := by omega
  clear hd hk hdk h hwf hrb hrp htb htp hbw hb hWs
  go_enter Try.func13, Try.ntmps13
  go_wp2_with (first
    | (go_at_call 29; ((with_reducible refine (HCP.out).mono ?_); rintro e w1 ⟨v, rfl, hown, hb1⟩; obtain ⟨a1, cap1, rfl, hrd⟩ := hown.rd; have hblk : ∀ q, blk a1 = some q → w.heap.size < q ∧ q < w1.heap.size := (fun q hq => by have := World.ownsRow.lt hown q (by rw [ownBlock_sl]; exact hq); exact ⟨Nat.lt_of_lt_of_le (by simp) this.1, this.2⟩); have HBLK := Lib.hid hblk; have HWR := Lib.hid (WrB.of_own hown rfl); have HB1 := Lib.hid hb1; have c6 := cell_below c2 hb1; have HAP := Lib.hid (append_any d S B hB s o.nm HNM.out a1 cap1 o.b hb2 w1 (HDK.out.below hb1) hrd (fun q hq e => by have h1 := (hblk q hq).1; have h2 := HS.out q e; omega)); clear hown hb1 hrd hblk))
    | (go_at_call 33; ((with_reducible refine (HAP.out).mono ?_); rintro e w2 ⟨rfl, hd⟩; have HD := Lib.hid hd; clear hd)))
  go_loopw [7] (fun i wr => ∃ k : Nat, k ≤ o.b.length ∧ i = .int .i64 (k : Nat) ∧ Hid (WrB wr a1 o.b.length) ∧ Hid (Fr (fun q => blk a1 = some q) w2 wr)) (fun i _ => o.b.length - (intOf i).toNat)
  case atStart => exact ⟨0, Nat.zero_le _, rfl, HWR.out.keep HD.out.2 (fun q hq e => by have h1 := (HBLK.out q hq).1; have h2 := HS.out q e; omega), Fr.refl _ _⟩
  case round =>
    obtain ⟨k, hk, rfl, HWB, HF⟩ := hrel
    by_cases hlt : k < o.b.length
    · obtain ⟨r, u, ha1, cu, fu, hw'⟩ := HWB.out.at hlt
      subst ha1
      have HW' := Lib.hid hw'
      clear hw'
      go_wp2_with fail
      go_roundw
      case rel => exact ⟨k + 1, by omega, by go_num, HW'.out _, HF.out.setCell (p := ⟨r, k, none⟩) (fun _ => rfl) _⟩
      case measure => simp [intOf]; omega
    · go_wp2_with fail
      go_ret
      exact ⟨rfl, Done.beside (HB.out.trans (HB1.out.mono HB.out.size)) HD.out HF.out HS.out (fun q hq => ⟨Nat.le_of_lt (HBLK.out q hq).1, (HBLK.out q hq).2⟩)⟩

theorem does_any (d : Nat) (S : Nat → Prop) (B : Int) (hB : B < 1000000000000) (s : DS) (o : OpV) (ab : Option Addr) (cb : Nat) (ap : Option Addr) (cp : Nat) (T : Nat → Prop) (hT : ∀ b, T b → ¬ S b) (hb : o.b.length ≤ 4194304) (w : World) (h : DkS B w d S s) (ho : OpRd w T o ab cb ap cp) :
    Calls Try.prog 13 #[.pointer (some ⟨d, 0, none⟩), opV o ab cb ap cp] w (Told B w d S (doesS s o)) := by
  by_cases h1 : o.k = 1
  · exact does_1 d S B hB s o ab cb ap cp T hT hb w h ho h1
  by_cases h2 : o.k = 2
  · exact does_2 d S B hB s o ab cb ap cp T hT hb w h ho h2
  by_cases h3 : o.k = 3
  · exact does_3 d S B hB s o ab cb ap cp T hT hb w h ho h3
  by_cases h4 : o.k = 4
  · exact does_4 d S B hB s o ab cb ap cp T hT hb w h ho h4
  by_cases h5 : o.k = 5
  · exact does_5 d S B hB s o ab cb ap cp T hT hb w h ho h5
  by_cases h6 : o.k = 6
  · exact does_6 d S B hB s o ab cb ap cp T hT hb w h ho h6
  by_cases h7 : o.k = 7
  · exact does_7 d S B hB s o ab cb ap cp T hT hb w h ho h7
  by_cases h8 : o.k = 8
  · exact does_8 d S B hB s o ab cb ap cp T hT hb w h ho h8
  by_cases h9 : o.k = 9
  · exact does_9 d S B hB s o ab cb ap cp T hT hb w h ho h9
  exact does_0 d S B hB s o ab cb ap cp T hT hb w h ho ⟨h1, h2, h3, h4, h5, h6, h7, h8, h9⟩
end Go.Proofs.Ytdbfkneklkdnaaa
