/-
 Both logs of a law beside one another, each on its disk (racelaw7.both): memory.
 Open of both logs (racelaw7.both.opens).
 Both logs stand alike (racelaw7.both.stands).
-/
import Derived.Test.YtjjcilinghgphaaGreatUC
import Derived.Test.YtjjcilinghgphaaGreatVF
import Derived.Test.YtjjcilinghgphaaGreatE41
/-! ### Both logs of a law beside one another, each on its disk (racelaw7.both): memory. -/
namespace Go.Proofs.YtjjcilinghgphaaGreat
open Go.RowKit Go.Maps Go.Sort
set_option maxRecDepth 100000

/-- A log, or none, on a disk. -/
def SideL (B : Int) (W : World) (d : Nat) (pl : Option Addr) (T : Nat → Prop) (s : DS) (og : Option LG) : Prop :=
 match og with
 | none => pl = none ∧ DkS B W d T s
 | some g => ∃ l, pl = some ⟨l, 0, none⟩ ∧ LWS B W d l T s g ∧ LOk s g
/-- The document's log, or none, on the document's disk. -/
def SideR (W : World) (c : Nat) (pm : Option Addr) (T : Nat → Prop) (s : DS) (og : Option LG) : Prop :=
 match og with
 | none => pm = none ∧ Rf W c T s
 | some g => ∃ m, pm = some ⟨m, 0, none⟩ ∧ RWS W c m T s g
/-- The blocks of both within a law. -/
structure AB (W0 : World) (T T' : Nat → Prop) (W : World) : Prop where
 t0 : ∀ k, T k → W0.heap.size ≤ k
 t1 : ∀ k, T' k → W0.heap.size ≤ k
 l0 : ∀ k, T k → k < W.heap.size
 l1 : ∀ k, T' k → k < W.heap.size
 dj : ∀ k, T k → ¬ T' k
 bl : Below W0.heap.size W0 W
/-- A row beside both. -/
structure RowAt (T T' : Nat → Prop) (p : Nat) (cs : Array Value) (ty : TypeId) (W : World) : Prop where
 row : W.heap[p]? = some (.cells cs ty (0, 0))
 n : ¬ T p
 n' : ¬ T' p
section
variable {W0 W W' : World} {B B' : Int} {T T' : Nat → Prop} {d c l m p : Nat} {pl pm : Option Addr} {s s' s2 : DS} {og : Option LG} {g : LG} {cs : Array Value} {ty : TypeId}
theorem LWS.keep (h : LWS B W d l T s g) (hf : Fr T' W W') (hn : ∀ k, T k → ¬ T' k) : LWS B W' d l T s g := by
 obtain ⟨Sd, Sl, q1, q2, q3, q4, q5, q6⟩ := h
 exact ⟨Sd, Sl, q1.keep hf fun k hk => hn k (q4 k hk), LgS.keep q2 hf fun k hk => hn k (q5 k hk), q3, q4, q5, fun k hk => Nat.lt_of_lt_of_le (q6 k hk) hf.size⟩
theorem SideL.lt (h : SideL B W d pl T s og) : ∀ k, T k → k < W.heap.size := by
 cases og with
 | none => exact h.2.lt
 | some g => obtain ⟨l, _, h2, _⟩ := h; exact h2.lt
theorem SideL.ok (h : SideL B W d pl T s og) : DOk B s := by
 cases og with
 | none => exact h.2.ok
 | some g => obtain ⟨l, _, h2, _⟩ := h; exact h2.ok
theorem SideL.new (h : SideL B W d pl T s og) (hb : Below W.heap.size W W') : SideL B W' d pl T s og := by
 cases og with
 | none => exact ⟨h.1, h.2.below hb⟩
 | some g => obtain ⟨l, h1, h2, h3⟩ := h; exact ⟨l, h1, h2.new hb, h3⟩
theorem SideL.keep (h : SideL B W d pl T s og) (hf : Fr T' W W') (hn : ∀ k, T k → ¬ T' k) : SideL B W' d pl T s og := by
 cases og with
 | none => exact ⟨h.1, h.2.keep hf hn⟩
 | some g => obtain ⟨l, h1, h2, h3⟩ := h; exact ⟨l, h1, h2.keep hf hn, h3⟩
theorem SideL.mono (h : SideL B W d pl T s og) (hB : B ≤ B') : SideL B' W d pl T s og := by
 cases og with
 | none => exact ⟨h.1, h.2.mono hB (fun _ hk => hk) h.2.lt⟩
 | some g => obtain ⟨l, h1, h2, h3⟩ := h; exact ⟨l, h1, h2.mono hB (fun _ hk => hk) h2.lt, h3⟩
theorem SideL.all (h : SideL B W d pl T s og) : DkS B W d T s := by
 cases og with
 | none => exact h.2
 | some g =>
  obtain ⟨l, _, ⟨Sd, Sl, q1, q2, q3, q4, q5, q6⟩, _⟩ := h
  exact q1.mono (Int.le_refl _) q4 q6
/-- A deed of the disk alone. -/
theorem SideL.dk (h : SideL B W d pl T s og) : ∃ Sd, DkS B W d Sd s ∧ (∀ k, Sd k → T k) ∧ ∀ B' s2 W', Done B' W d Sd s2 W' → (∀ g, og = some g → LOk s2 g) → SideL B' W' d pl (Sx T W W') s2 og ∧ Fr T W W' := by
 cases og with
 | none => exact ⟨T, h.2, fun _ hk => hk, fun B' s2 W' hd _ => ⟨⟨h.1, hd.1⟩, hd.2⟩⟩
 | some g =>
  obtain ⟨l, h1, h2, h3⟩ := h
  obtain ⟨Sd, Sl, hA⟩ := h2.open
  obtain ⟨Sd', Sl', q1, q2, q3, q4, q5, q6⟩ := h2
  refine ⟨Sd', q1, q4, fun B' s2 W' hd hk => ?_⟩
  have hA : LAt W T d l B Sd' Sl' s g.dir g.room g.sf g.segs W := ⟨q1, q2, q3, fun k hk => .inl (q4 k hk), fun k hk => .inl (q5 k hk), Fr.refl _ _, q6⟩
  obtain ⟨r1, r2⟩ := (hA.disk hd).fin
  exact ⟨⟨l, h1, r1, hk g rfl⟩, r2⟩
theorem SideR.lt (h : SideR W c pm T s og) : ∀ k, T k → k < W.heap.size := by
 cases og with
 | none => exact h.2.lt
 | some g => obtain ⟨l, _, h2⟩ := h; exact h2.lt
theorem SideR.new (h : SideR W c pm T s og) (hb : Below W.heap.size W W') : SideR W' c pm T s og := by
 cases og with
 | none => exact ⟨h.1, h.2.below hb⟩
 | some g => obtain ⟨l, h1, h2⟩ := h; exact ⟨l, h1, h2.new hb⟩
theorem SideR.keep (h : SideR W c pm T s og) (hf : Fr T' W W') (hn : ∀ k, T k → ¬ T' k) : SideR W' c pm T s og := by
 cases og with
 | none => exact ⟨h.1, h.2.keep hf hn⟩
 | some g => obtain ⟨l, h1, h2⟩ := h; exact ⟨l, h1, h2.keep hf hn⟩
theorem SideR.all (h : SideR W c pm T s og) : Rf W c T s := by
 cases og with
 | none => exact h.2
 | some g => obtain ⟨l, _, h2⟩ := h; exact h2.rf
theorem SideR.rf (h : SideR W c pm T s og) : ∃ Sd, Rf W c Sd s ∧ (∀ k, Sd k → T k) ∧ ∀ s2 W', Rf W' c (Sx Sd W W') s2 → Fr Sd W W' → SideR W' c pm (Sx T W W') s2 og ∧ Fr T W W' := by
 cases og with
 | none => exact ⟨T, h.2, fun _ hk => hk, fun s2 W' hd hf => ⟨⟨h.1, hd⟩, hf⟩⟩
 | some g =>
  obtain ⟨l, h1, h2⟩ := h
  obtain ⟨Sd', Sl', q1, q2, q3, q4, q5, q6⟩ := h2
  refine ⟨Sd', q1, q4, fun s2 W' hd hf => ?_⟩
  have hA : RAt W T c l Sd' Sl' s g.dir g.room g.sf g.nums g.all W := ⟨q1, q2, q3, fun k hk => .inl (q4 k hk), fun k hk => .inl (q5 k hk), Fr.refl _ _, q6⟩
  obtain ⟨r1, r2⟩ := (hA.disk hd hf).fin
  exact ⟨⟨l, h1, r1⟩, r2⟩
theorem AB.new (h : AB W0 T T' W) (hb : Below W.heap.size W W') : AB W0 T T' W' :=
 ⟨h.t0, h.t1, fun k hk => Nat.lt_of_lt_of_le (h.l0 k hk) hb.size, fun k hk => Nat.lt_of_lt_of_le (h.l1 k hk) hb.size, h.dj, next_below h.bl hb⟩
theorem AB.stepL (h : AB W0 T T' W) (hf : Fr T W W') : AB W0 (Sx T W W') T' W' :=
 ⟨sx_own h.t0 h.bl, h.t1, Sx.lt hf.size h.l0, fun k hk => Nat.lt_of_lt_of_le (h.l1 k hk) hf.size, fun k hk e => hk.elim (fun q => h.dj k q e) (fun q => by have := h.l1 k e; omega), fr_below hf h.t0 h.bl⟩
theorem AB.stepR (h : AB W0 T T' W) (hf : Fr T' W W') : AB W0 T (Sx T' W W') W' :=
 ⟨h.t0, sx_own h.t1 h.bl, fun k hk => Nat.lt_of_lt_of_le (h.l0 k hk) hf.size, Sx.lt hf.size h.l1, fun k e hk => hk.elim (fun q => h.dj k e q) (fun q => by have := h.l0 k e; omega), fr_below hf h.t1 h.bl⟩
theorem RowAt.lt (h : RowAt T T' p cs ty W) : p < W.heap.size := (Array.getElem?_eq_some_iff.1 h.row).1
theorem RowAt.new (h : RowAt T T' p cs ty W) (hb : Below W.heap.size W W') : RowAt T T' p cs ty W' := ⟨(hb.block p h.lt).trans h.row, h.n, h.n'⟩
theorem RowAt.stepL (h : RowAt T T' p cs ty W) (hf : Fr T W W') : RowAt (Sx T W W') T' p cs ty W' := by
 have hl := h.lt
 exact ⟨(hf.block p hl h.n).trans h.row, fun e => e.elim h.n (fun e => by omega), h.n'⟩
theorem RowAt.stepR (h : RowAt T T' p cs ty W) (hf : Fr T' W W') : RowAt T (Sx T' W W') p cs ty W' := by
 have hl := h.lt
 exact ⟨(hf.block p hl h.n').trans h.row, h.n, fun e => e.elim h.n' (fun e => by omega)⟩
theorem RowAt.cell (h : RowAt T T' p cs ty W) (j : Nat) : W.cell? ⟨p, j, none⟩ = cs[j]? := cell_of_row _ _ j _ _ _ h.row
theorem RowAt.frozen (h : RowAt T T' p cs ty W) (j : Nat) : W.frozen? ⟨p, j, none⟩ = false := frozen_of_row _ _ j _ _ h.row
theorem AB.fresh (h : AB W0 T T' W) (cs : Array Value) (ty : TypeId) : RowAt T T' W.heap.size cs ty (W.alloc (.cells cs ty)) :=
 ⟨heap_alloc_new W _, fun e => Nat.lt_irrefl _ (h.l0 _ e), fun e => Nat.lt_irrefl _ (h.l1 _ e)⟩
end
def bothC (d c : Nat) (pl pm : Option Addr) (dir : List UInt8) (room : Int) : Array Value := #[.pointer (some ⟨d, 0, none⟩), .pointer (some ⟨c, 0, none⟩), .pointer pl, .pointer pm, .string (bs dir), .int .i64 room]
abbrev RB (T T' : Nat → Prop) (q d c : Nat) (pl pm : Option Addr) (dir : List UInt8) (room : Int) (W : World) : Prop := RowAt T T' q (bothC d c pl pm dir room) 39 W
/-- Both disks, and the row that holds both. -/
structure BD (W0 : World) (B : Int) (q d c : Nat) (dir : List UInt8) (room : Int) (s : DS) (T T' : Nat → Prop) (pl pm : Option Addr) (W : World) : Prop where
 ab : AB W0 T T' W
 rb : RB T T' q d c pl pm dir room W
 dk : DkS B W d T s
 rf : Rf W c T' s
 q0 : W0.heap.size ≤ q
/-- Both logs beside one another. -/
structure BT (W0 : World) (B : Int) (q d c : Nat) (dir : List UInt8) (room : Int) (s : DS) (og : Option LG) (T T' : Nat → Prop) (pl pm : Option Addr) (W : World) : Prop where
 ab : AB W0 T T' W
 rb : RB T T' q d c pl pm dir room W
 sl : SideL B W d pl T s og
 sr : SideR W c pm T' s og
 q0 : W0.heap.size ≤ q
def BB (W0 : World) (B : Int) (q d c : Nat) (dir : List UInt8) (room : Int) (s : DS) (og : Option LG) (W : World) : Prop := ∃ T T' pl pm, BT W0 B q d c dir room s og T T' pl pm W
section
variable {W0 W W' : World} {B B' : Int} {T T' : Nat → Prop} {q d c : Nat} {dir : List UInt8} {room : Int} {s s2 : DS} {og : Option LG} {pl pm : Option Addr}
theorem BT.new (h : BT W0 B q d c dir room s og T T' pl pm W) (hb : Below W.heap.size W W') : BT W0 B q d c dir room s og T T' pl pm W' := ⟨h.ab.new hb, h.rb.new hb, h.sl.new hb, h.sr.new hb, h.q0⟩
theorem BT.mono (h : BT W0 B q d c dir room s og T T' pl pm W) (hB : B ≤ B') : BT W0 B' q d c dir room s og T T' pl pm W := ⟨h.ab, h.rb, h.sl.mono hB, h.sr, h.q0⟩
theorem BT.bd (h : BT W0 B q d c dir room s og T T' pl pm W) : BD W0 B q d c dir room s T T' pl pm W := ⟨h.ab, h.rb, h.sl.all, h.sr.all, h.q0⟩
theorem BB.mono (h : BB W0 B q d c dir room s og W) (hB : B ≤ B') : BB W0 B' q d c dir room s og W := by
 obtain ⟨T, T', pl, pm, h⟩ := h
 exact ⟨T, T', pl, pm, h.mono hB⟩
theorem BB.new (h : BB W0 B q d c dir room s og W) (hb : Below W.heap.size W W') : BB W0 B q d c dir room s og W' := by
 obtain ⟨T, T', pl, pm, h⟩ := h
 exact ⟨T, T', pl, pm, h.new hb⟩
theorem BB.bl (h : BB W0 B q d c dir room s og W) : Below W0.heap.size W0 W := by
 obtain ⟨T, T', pl, pm, h⟩ := h
 exact h.ab.bl
end
/-- What Open told, as a side. -/
theorem OpenPost.side {B : Int} {w w' : World} {d : Nat} {S : Nat → Prop} {r : OR} {e : Ending} (h : OpenPost B w d S r e w') : ∃ pl, e = .returned (.tuple #[.pointer pl, .int .i64 r.e]) ∧ SideL B w' d pl (Sx S w w') r.s r.g ∧ Fr S w w' := by
 unfold OpenPost at h
 unfold SideL
 cases hg : r.g with
 | none =>
  rw [hg] at h
  exact ⟨none, h.1, ⟨rfl, h.2.1⟩, h.2.2⟩
 | some g =>
  rw [hg] at h
  obtain ⟨l, h1, h2, h3, h4⟩ := h
  exact ⟨_, h1, ⟨l, rfl, h2, h4⟩, h3⟩
theorem ROpenPost.side {w w' : World} {c : Nat} {S : Nat → Prop} {r : OR} {e : Ending} (h : ROpenPost w c S r e w') : ∃ pm, e = .returned (.tuple #[.pointer pm, .int .i64 r.e]) ∧ SideR w' c pm (Sx S w w') r.s r.g ∧ Fr S w w' := by
 unfold ROpenPost at h
 unfold SideR
 cases hg : r.g with
 | none =>
  rw [hg] at h
  exact ⟨none, h.1, ⟨rfl, h.2.1⟩, h.2.2⟩
 | some g =>
  rw [hg] at h
  obtain ⟨l, h1, h2, h3⟩ := h
  exact ⟨_, h1, ⟨l, rfl, h2⟩, h3⟩
theorem SideL.isnone {B : Int} {W : World} {d : Nat} {pl pm : Option Addr} {T T' : Nat → Prop} {s : DS} {og : Option LG} {c : Nat} (h : SideL B W d pl T s og) (h' : SideR W c pm T' s og) : (pl = none ∧ pm = none ∧ og = none) ∨ ∃ l m g, pl = some ⟨l, 0, none⟩ ∧ pm = some ⟨m, 0, none⟩ ∧ og = some g ∧ LWS B W d l T s g ∧ LOk s g ∧ RWS W c m T' s g := by
 cases og with
 | none => exact .inl ⟨h.1, h'.1, rfl⟩
 | some g =>
  obtain ⟨l, h1, h2, h3⟩ := h
  obtain ⟨m, k1, k2⟩ := h'
  exact .inr ⟨l, m, g, h1, k1, rfl, h2, h3, k2⟩
end Go.Proofs.YtjjcilinghgphaaGreat

/-! ### Open of both logs (racelaw7.both.opens). -/
namespace Go.Proofs.YtjjcilinghgphaaGreat
open Go.RowKit Go.Maps Go.Sort
set_option maxRecDepth 100000
attribute [local go_sem] bs_size bs_toList
section
variable {W0 W W' : World} {T T' : Nat → Prop} {q : Nat} {cs : Array Value} {ty : TypeId}
theorem AB.set (h : AB W0 T T' W) (hq : W0.heap.size ≤ q) (j : Nat) (v : Value) : AB W0 T T' (W.setCell ⟨q, j, none⟩ v) :=
 ⟨h.t0, h.t1, fun k hk => by have := h.l0 k hk; simpa using this, fun k hk => by have := h.l1 k hk; simpa using this, h.dj, h.bl.setCell (p := ⟨q, j, none⟩) hq _⟩
theorem RowAt.set (h : RowAt T T' q cs ty W) (j : Nat) (v : Value) : RowAt T T' q (cs.setIfInBounds j v) ty (W.setCell ⟨q, j, none⟩ v) := ⟨row_set h.row rfl, h.n, h.n'⟩
theorem RowAt.frL (h : RowAt T T' q cs ty W) (j : Nat) (v : Value) : Fr (fun k => k = q) W (W.setCell ⟨q, j, none⟩ v) ∧ (∀ k, T k → ¬ k = q) ∧ ∀ k, T' k → ¬ k = q :=
 ⟨(Fr.refl (fun k => k = q) W).setCell (p := ⟨q, j, none⟩) (fun _ => rfl) v, fun k hk e => h.n (e ▸ hk), fun k hk e => h.n' (e ▸ hk)⟩
end
set_option maxHeartbeats 4000000 in
theorem opens_any {W0 w : World} {B : Int} {q d c : Nat} {dir : List UInt8} {room : Int} {s : DS} {T T' : Nat → Prop} {pl pm : Option Addr} (h : BD W0 B q d c dir room s T T' pl pm w) (hB : B < 999999999990) (hd : dir.length ≤ 1000000) :
 Calls Tryz.prog 10 #[.pointer (some ⟨q, 0, none⟩)] w fun e W' => e = .returned (.bool true) ∧ BB W0 (B + 3) q d c dir room (openL s dir room).s (openL s dir room).g W' := by
 have H := Lib.hid h
 have HD0 := Lib.hid hd
 have HOK := Lib.hid h.dk.ok
 have c0 : w.cell? ⟨q, 0, none⟩ = some (.pointer (some ⟨d, 0, none⟩)) := by rw [h.rb.cell]; rfl
 have c4 : w.cell? ⟨q, 4, none⟩ = some (.string (bs dir)) := by rw [h.rb.cell]; rfl
 have c5 : w.cell? ⟨q, 5, none⟩ = some (.int .i64 room) := by rw [h.rb.cell]; rfl
 obtain ⟨r, hr⟩ : ∃ r, openL s dir room = r := ⟨_, rfl⟩
 have HR := Lib.hid hr
 rw [hr]
 clear h hd hr
 go_enter Tryz.func10, Tryz.ntmps10
 go_wp2_with fail
 refine wp_region_ht 17 (fun W => W.cell? ⟨q, 0, none⟩ = some (.pointer (some ⟨d, 0, none⟩)) ∧ W.cell? ⟨q, 4, none⟩ = some (.string (bs dir)) ∧ W.cell? ⟨q, 5, none⟩ = some (.int .i64 room)) (by kernel_rfl) (by kernel_rfl) ?_ (fun hHeld => ?_)
 · exact ⟨c0, c4, c5⟩
 try simp only [Act.put, List.setIfInBounds_toArray, List.set_cons_zero, List.set_cons_succ]
 refine wpHT_takeD (i := 0) (d := 8) (v := ?_) (by kernel_rfl) rfl rfl (by decide) (by kernel_rfl) (by kernel_rfl) (fun _ _ _ h => h) (Or.inl ⟨by kernel_rfl, ?_⟩) (by assumption) ?_
 rotate_left
 · intro w hSw; (try dsimp only at hSw); go_simp; (try with_reducible rfl)
 try simp only [Act.put, List.setIfInBounds_toArray, List.set_cons_zero, List.set_cons_succ]
 refine wpHT_takeD (i := 1) (d := 9) (v := ?_) (by kernel_rfl) rfl rfl (by decide) (by kernel_rfl) (by kernel_rfl) (fun _ _ _ h => h) (Or.inl ⟨by kernel_rfl, ?_⟩) (by assumption) ?_
 rotate_left
 · intro w hSw; (try dsimp only at hSw); go_simp; (try with_reducible rfl)
 try simp only [Act.put, List.setIfInBounds_toArray, List.set_cons_zero, List.set_cons_succ]
 refine wpHT_takeD (i := 2) (d := 10) (v := ?_) (by kernel_rfl) rfl rfl (by decide) (by kernel_rfl) (by kernel_rfl) (fun _ _ _ h => h) (Or.inl ⟨by kernel_rfl, ?_⟩) (by assumption) ?_
 rotate_left
 · intro w hSw; (try dsimp only at hSw); go_simp; (try with_reducible rfl)
 try simp only [Act.put, List.setIfInBounds_toArray, List.set_cons_zero, List.set_cons_succ]
 refine wpHT_takeD (i := 3) (d := 11) (v := ?_) (by kernel_rfl) rfl rfl (by decide) (by kernel_rfl) (by kernel_rfl) (fun _ _ _ h => h) (Or.inl ⟨by kernel_rfl, ?_⟩) (by assumption) ?_
 rotate_left
 · intro w hSw; (try dsimp only at hSw); go_simp; (try with_reducible rfl)
 try simp only [Act.put, List.setIfInBounds_toArray, List.set_cons_zero, List.set_cons_succ]
 refine wpHT_takeD (i := 4) (d := 12) (v := ?_) (by kernel_rfl) rfl rfl (by decide) (by kernel_rfl) (by kernel_rfl) (fun _ _ _ h => h) (Or.inl ⟨by kernel_rfl, ?_⟩) (by assumption) ?_
 rotate_left
 · intro w hSw; (try dsimp only at hSw); go_simp; (try with_reducible rfl)
 try simp only [Act.put, List.setIfInBounds_toArray, List.set_cons_zero, List.set_cons_succ]
 refine wpHT_takeD (i := 5) (d := 13) (v := ?_) (by kernel_rfl) rfl rfl (by decide) (by kernel_rfl) (by kernel_rfl) (fun _ _ _ h => h) (Or.inl ⟨by kernel_rfl, ?_⟩) (by assumption) ?_
 rotate_left
 · intro w hSw; (try dsimp only at hSw); go_simp; (try with_reducible rfl)
 try simp only [Act.put, List.setIfInBounds_toArray, List.set_cons_zero, List.set_cons_succ]
 refine wpHT_takeD (i := 6) (d := 14) (v := ?_) (by kernel_rfl) rfl rfl (by decide) (by kernel_rfl) (by kernel_rfl) (fun _ _ _ h => h) (Or.inl ⟨by kernel_rfl, ?_⟩) (by assumption) ?_
 rotate_left
 · intro w hSw; (try dsimp only at hSw); go_simp; (try with_reducible rfl)
 try simp only [Act.put, List.setIfInBounds_toArray, List.set_cons_zero, List.set_cons_succ]
 refine wpHT_takeD (i := 7) (d := 15) (v := ?_) (by kernel_rfl) rfl rfl (by decide) (by kernel_rfl) (by kernel_rfl) (fun _ _ _ h => h) (Or.inl ⟨by kernel_rfl, ?_⟩) (by assumption) ?_
 rotate_left
 · intro w hSw; (try dsimp only at hSw); go_simp; (try with_reducible rfl)
 try simp only [Act.put, List.setIfInBounds_toArray, List.set_cons_zero, List.set_cons_succ]
 refine wpHT_takeD (i := 8) (d := 16) (v := ?_) (by kernel_rfl) rfl rfl (by decide) (by kernel_rfl) (by kernel_rfl) (fun _ _ _ h => h) (Or.inl ⟨by kernel_rfl, ?_⟩) (by assumption) ?_
 rotate_left
 · intro w hSw; (try dsimp only at hSw); go_simp; (try with_reducible rfl)
 try simp only [Act.put, List.setIfInBounds_toArray, List.set_cons_zero, List.set_cons_succ]
 refine wpHT_takeD (i := 9) (d := 17) (v := ?_) (by kernel_rfl) rfl rfl (by decide) (by kernel_rfl) (by kernel_rfl) (fun _ _ _ h => h) (Or.inl ⟨by kernel_rfl, ?_⟩) (by assumption) ?_
 rotate_left
 · intro w hSw; (try dsimp only at hSw); go_simp; (try with_reducible rfl)
 try simp only [Act.put, List.setIfInBounds_toArray, List.set_cons_zero, List.set_cons_succ]
 refine wpHT_takeD (i := 10) (d := 18) (v := ?_) (by kernel_rfl) rfl rfl (by decide) (by kernel_rfl) (by kernel_rfl) (fun _ _ _ h => h) (Or.inl ⟨by kernel_rfl, ?_⟩) (by assumption) ?_
 rotate_left
 · intro w hSw; (try dsimp only at hSw); go_simp; (try with_reducible rfl)
 try simp only [Act.put, List.setIfInBounds_toArray, List.set_cons_zero, List.set_cons_succ]
 refine wpHT_takeD (i := 11) (d := 19) (v := ?_) (by kernel_rfl) rfl rfl (by decide) (by kernel_rfl) (by kernel_rfl) (fun _ _ _ h => h) (Or.inl ⟨by kernel_rfl, ?_⟩) (by assumption) ?_
 rotate_left
 · intro w hSw; (try dsimp only at hSw); go_simp; (try with_reducible rfl)
 try simp only [Act.put, List.setIfInBounds_toArray, List.set_cons_zero, List.set_cons_succ]
 refine wpHT_one (i := 12) (by kernel_rfl) rfl (by decide) (fun K hK => ?_)
 go_simp
 go_at_call 15
 refine (open_any d T B hB s dir HD0.out room _ (H.out.dk.below (Below.refl _ w).drew)).mono ?_
 rintro e W1 hp
 rw [HR.out] at hp
 obtain ⟨pl1, rfl, hs1, hf1⟩ := hp.side
 have HS1 := Lib.hid hs1
 have HF1 := Lib.hid hf1
 have HB1 := Lib.hid ((H.out.rb.new (Below.refl _ w).drew).stepL hf1)
 clear hp hs1 hf1
 have c0 : W1.cell? ⟨q, 0, none⟩ = some (.pointer (some ⟨d, 0, none⟩)) := by rw [HB1.out.cell]; rfl
 have c4 : W1.cell? ⟨q, 4, none⟩ = some (.string (bs dir)) := by rw [HB1.out.cell]; rfl
 have c5 : W1.cell? ⟨q, 5, none⟩ = some (.int .i64 room) := by rw [HB1.out.cell]; rfl
 refine hK.out _ _ ?_ (fun hHeld => ?_)
 · exact ⟨c0, c4, c5⟩
 clear hK K
 try simp only [Act.put, List.setIfInBounds_toArray, List.set_cons_zero, List.set_cons_succ]
 refine wpHT_takeD (i := 13) (d := 7) (v := ?_) (by kernel_rfl) rfl rfl (by decide) (by kernel_rfl) (by kernel_rfl) (fun _ _ _ h => h) (Or.inl ⟨by kernel_rfl, ?_⟩) (by assumption) ?_
 rotate_left
 · intro w hSw; (try dsimp only at hSw); go_simp; (try with_reducible rfl)
 try simp only [Act.put, List.setIfInBounds_toArray, List.set_cons_zero, List.set_cons_succ]
 refine wpHT_takeD (i := 14) (d := 21) (v := ?_) (by kernel_rfl) rfl rfl (by decide) (by kernel_rfl) (by kernel_rfl) (fun _ _ _ h => h) (Or.inl ⟨by kernel_rfl, ?_⟩) (by assumption) ?_
 rotate_left
 · intro w hSw; (try dsimp only at hSw); go_simp; (try with_reducible rfl)
 try simp only [Act.put, List.setIfInBounds_toArray, List.set_cons_zero, List.set_cons_succ]
 refine wpHT_takeD (i := 15) (d := 22) (v := ?_) (by kernel_rfl) rfl rfl (by decide) (by kernel_rfl) (by kernel_rfl) (fun _ _ _ h => h) (Or.inl ⟨by kernel_rfl, ?_⟩) (by assumption) ?_
 rotate_left
 · intro w hSw; (try dsimp only at hSw); go_simp; (try with_reducible rfl)
 try simp only [Act.put, List.setIfInBounds_toArray, List.set_cons_zero, List.set_cons_succ]
 refine wpHT_takeD (i := 16) (d := 3) (v := ?_) (by kernel_rfl) rfl rfl (by decide) (by kernel_rfl) (by kernel_rfl) (fun _ _ _ h => h) (Or.inl ⟨by kernel_rfl, ?_⟩) (by assumption) ?_
 rotate_left
 · intro w hSw; (try dsimp only at hSw); go_simp; (try with_reducible rfl)
 try simp only [Act.put, List.setIfInBounds_toArray, List.set_cons_zero, List.set_cons_succ]
 refine wpHT_done (by kernel_rfl) ?_
 simp only [List.drop_succ_cons, List.drop_zero]
 clear hHeld
 have HA1 := Lib.hid ((H.out.ab.new (Below.refl _ w).drew).stepL HF1.out)
 have HF6 : Hid (Rf W1 c T' s) := (H.out.rf.below (Below.refl _ w).drew).keep HF1.out fun k hk e => H.out.ab.dj k e hk
 have c1 : W1.cell? ⟨q, 1, none⟩ = some (.pointer (some ⟨c, 0, none⟩)) := by rw [HB1.out.cell]; rfl
 have Q0 := Lib.hid H.out.q0
 obtain ⟨T1, hT1⟩ : ∃ T1, Sx T w.drew W1 = T1 := ⟨_, rfl⟩
 rw [hT1] at HA1 HB1 HS1
 clear hT1 H HF1 c0
 go_wp2_with fail
 refine wp_region_ht 17 (fun W => W.cell? ⟨q, 1, none⟩ = some (.pointer (some ⟨c, 0, none⟩)) ∧ W.cell? ⟨q, 4, none⟩ = some (.string (bs dir)) ∧ W.cell? ⟨q, 5, none⟩ = some (.int .i64 room)) (by kernel_rfl) (by kernel_rfl) ?_ (fun hHeld => ?_)
 · exact ⟨c1, c4, c5⟩
 try simp only [Act.put, List.setIfInBounds_toArray, List.set_cons_zero, List.set_cons_succ]
 refine wpHT_takeD (i := 0) (d := 24) (v := ?_) (by kernel_rfl) rfl rfl (by decide) (by kernel_rfl) (by kernel_rfl) (fun _ _ _ h => h) (Or.inl ⟨by kernel_rfl, ?_⟩) (by assumption) ?_
 rotate_left
 · intro w hSw; (try dsimp only at hSw); go_simp; (try with_reducible rfl)
 try simp only [Act.put, List.setIfInBounds_toArray, List.set_cons_zero, List.set_cons_succ]
 refine wpHT_takeD (i := 1) (d := 25) (v := ?_) (by kernel_rfl) rfl rfl (by decide) (by kernel_rfl) (by kernel_rfl) (fun _ _ _ h => h) (Or.inl ⟨by kernel_rfl, ?_⟩) (by assumption) ?_
 rotate_left
 · intro w hSw; (try dsimp only at hSw); go_simp; (try with_reducible rfl)
 try simp only [Act.put, List.setIfInBounds_toArray, List.set_cons_zero, List.set_cons_succ]
 refine wpHT_takeD (i := 2) (d := 26) (v := ?_) (by kernel_rfl) rfl rfl (by decide) (by kernel_rfl) (by kernel_rfl) (fun _ _ _ h => h) (Or.inl ⟨by kernel_rfl, ?_⟩) (by assumption) ?_
 rotate_left
 · intro w hSw; (try dsimp only at hSw); go_simp; (try with_reducible rfl)
 try simp only [Act.put, List.setIfInBounds_toArray, List.set_cons_zero, List.set_cons_succ]
 refine wpHT_takeD (i := 3) (d := 27) (v := ?_) (by kernel_rfl) rfl rfl (by decide) (by kernel_rfl) (by kernel_rfl) (fun _ _ _ h => h) (Or.inl ⟨by kernel_rfl, ?_⟩) (by assumption) ?_
 rotate_left
 · intro w hSw; (try dsimp only at hSw); go_simp; (try with_reducible rfl)
 try simp only [Act.put, List.setIfInBounds_toArray, List.set_cons_zero, List.set_cons_succ]
 refine wpHT_takeD (i := 4) (d := 28) (v := ?_) (by kernel_rfl) rfl rfl (by decide) (by kernel_rfl) (by kernel_rfl) (fun _ _ _ h => h) (Or.inl ⟨by kernel_rfl, ?_⟩) (by assumption) ?_
 rotate_left
 · intro w hSw; (try dsimp only at hSw); go_simp; (try with_reducible rfl)
 try simp only [Act.put, List.setIfInBounds_toArray, List.set_cons_zero, List.set_cons_succ]
 refine wpHT_takeD (i := 5) (d := 29) (v := ?_) (by kernel_rfl) rfl rfl (by decide) (by kernel_rfl) (by kernel_rfl) (fun _ _ _ h => h) (Or.inl ⟨by kernel_rfl, ?_⟩) (by assumption) ?_
 rotate_left
 · intro w hSw; (try dsimp only at hSw); go_simp; (try with_reducible rfl)
 try simp only [Act.put, List.setIfInBounds_toArray, List.set_cons_zero, List.set_cons_succ]
 refine wpHT_takeD (i := 6) (d := 30) (v := ?_) (by kernel_rfl) rfl rfl (by decide) (by kernel_rfl) (by kernel_rfl) (fun _ _ _ h => h) (Or.inl ⟨by kernel_rfl, ?_⟩) (by assumption) ?_
 rotate_left
 · intro w hSw; (try dsimp only at hSw); go_simp; (try with_reducible rfl)
 try simp only [Act.put, List.setIfInBounds_toArray, List.set_cons_zero, List.set_cons_succ]
 refine wpHT_takeD (i := 7) (d := 31) (v := ?_) (by kernel_rfl) rfl rfl (by decide) (by kernel_rfl) (by kernel_rfl) (fun _ _ _ h => h) (Or.inl ⟨by kernel_rfl, ?_⟩) (by assumption) ?_
 rotate_left
 · intro w hSw; (try dsimp only at hSw); go_simp; (try with_reducible rfl)
 try simp only [Act.put, List.setIfInBounds_toArray, List.set_cons_zero, List.set_cons_succ]
 refine wpHT_takeD (i := 8) (d := 32) (v := ?_) (by kernel_rfl) rfl rfl (by decide) (by kernel_rfl) (by kernel_rfl) (fun _ _ _ h => h) (Or.inl ⟨by kernel_rfl, ?_⟩) (by assumption) ?_
 rotate_left
 · intro w hSw; (try dsimp only at hSw); go_simp; (try with_reducible rfl)
 try simp only [Act.put, List.setIfInBounds_toArray, List.set_cons_zero, List.set_cons_succ]
 refine wpHT_takeD (i := 9) (d := 33) (v := ?_) (by kernel_rfl) rfl rfl (by decide) (by kernel_rfl) (by kernel_rfl) (fun _ _ _ h => h) (Or.inl ⟨by kernel_rfl, ?_⟩) (by assumption) ?_
 rotate_left
 · intro w hSw; (try dsimp only at hSw); go_simp; (try with_reducible rfl)
 try simp only [Act.put, List.setIfInBounds_toArray, List.set_cons_zero, List.set_cons_succ]
 refine wpHT_takeD (i := 10) (d := 34) (v := ?_) (by kernel_rfl) rfl rfl (by decide) (by kernel_rfl) (by kernel_rfl) (fun _ _ _ h => h) (Or.inl ⟨by kernel_rfl, ?_⟩) (by assumption) ?_
 rotate_left
 · intro w hSw; (try dsimp only at hSw); go_simp; (try with_reducible rfl)
 try simp only [Act.put, List.setIfInBounds_toArray, List.set_cons_zero, List.set_cons_succ]
 refine wpHT_takeD (i := 11) (d := 35) (v := ?_) (by kernel_rfl) rfl rfl (by decide) (by kernel_rfl) (by kernel_rfl) (fun _ _ _ h => h) (Or.inl ⟨by kernel_rfl, ?_⟩) (by assumption) ?_
 rotate_left
 · intro w hSw; (try dsimp only at hSw); go_simp; (try with_reducible rfl)
 try simp only [Act.put, List.setIfInBounds_toArray, List.set_cons_zero, List.set_cons_succ]
 refine wpHT_one (i := 12) (by kernel_rfl) rfl (by decide) (fun K hK => ?_)
 go_simp
 go_at_call 28
 refine (ropen_any c T' B hB s HOK.out dir HD0.out room _ (HF6.out.below (Below.refl _ W1).drew)).mono ?_
 rintro e W2 hp
 rw [HR.out] at hp
 obtain ⟨pm1, rfl, hs1, hf1⟩ := hp.side
 have HS2 := Lib.hid hs1
 have HF2 := Lib.hid hf1
 have HB2 := Lib.hid ((HB1.out.new (Below.refl _ W1).drew).stepR hf1)
 clear hp hs1 hf1
 have c1 : W2.cell? ⟨q, 1, none⟩ = some (.pointer (some ⟨c, 0, none⟩)) := by rw [HB2.out.cell]; rfl
 have c4 : W2.cell? ⟨q, 4, none⟩ = some (.string (bs dir)) := by rw [HB2.out.cell]; rfl
 have c5 : W2.cell? ⟨q, 5, none⟩ = some (.int .i64 room) := by rw [HB2.out.cell]; rfl
 refine hK.out _ _ ?_ (fun hHeld => ?_)
 · exact ⟨c1, c4, c5⟩
 clear hK K
 try simp only [Act.put, List.setIfInBounds_toArray, List.set_cons_zero, List.set_cons_succ]
 refine wpHT_takeD (i := 13) (d := 23) (v := ?_) (by kernel_rfl) rfl rfl (by decide) (by kernel_rfl) (by kernel_rfl) (fun _ _ _ h => h) (Or.inl ⟨by kernel_rfl, ?_⟩) (by assumption) ?_
 rotate_left
 · intro w hSw; (try dsimp only at hSw); go_simp; (try with_reducible rfl)
 try simp only [Act.put, List.setIfInBounds_toArray, List.set_cons_zero, List.set_cons_succ]
 refine wpHT_takeD (i := 14) (d := 37) (v := ?_) (by kernel_rfl) rfl rfl (by decide) (by kernel_rfl) (by kernel_rfl) (fun _ _ _ h => h) (Or.inl ⟨by kernel_rfl, ?_⟩) (by assumption) ?_
 rotate_left
 · intro w hSw; (try dsimp only at hSw); go_simp; (try with_reducible rfl)
 try simp only [Act.put, List.setIfInBounds_toArray, List.set_cons_zero, List.set_cons_succ]
 refine wpHT_takeD (i := 15) (d := 38) (v := ?_) (by kernel_rfl) rfl rfl (by decide) (by kernel_rfl) (by kernel_rfl) (fun _ _ _ h => h) (Or.inl ⟨by kernel_rfl, ?_⟩) (by assumption) ?_
 rotate_left
 · intro w hSw; (try dsimp only at hSw); go_simp; (try with_reducible rfl)
 try simp only [Act.put, List.setIfInBounds_toArray, List.set_cons_zero, List.set_cons_succ]
 refine wpHT_takeD (i := 16) (d := 5) (v := ?_) (by kernel_rfl) rfl rfl (by decide) (by kernel_rfl) (by kernel_rfl) (fun _ _ _ h => h) (Or.inl ⟨by kernel_rfl, ?_⟩) (by assumption) ?_
 rotate_left
 · intro w hSw; (try dsimp only at hSw); go_simp; (try with_reducible rfl)
 try simp only [Act.put, List.setIfInBounds_toArray, List.set_cons_zero, List.set_cons_succ]
 refine wpHT_done (by kernel_rfl) ?_
 simp only [List.drop_succ_cons, List.drop_zero]
 clear hHeld
 have HA2 := Lib.hid ((HA1.out.new (Below.refl _ W1).drew).stepR HF2.out)
 have HL2 := Lib.hid ((HS1.out.new (Below.refl _ W1).drew).keep HF2.out fun k hk e => HA1.out.dj k hk e)
 obtain ⟨T2, hT2⟩ : ∃ T2, Sx T' W1.drew W2 = T2 := ⟨_, rfl⟩
 rw [hT2] at HA2 HB2 HS2
 have c2 : W2.cell? ⟨q, 2, none⟩ = some (.pointer pl) := by rw [HB2.out.cell]; rfl
 have f2 := HB2.out.frozen 2
 have hb3 := HB2.out.set 2 (.pointer pl1)
 have c3 : (W2.setCell ⟨q, 2, none⟩ (.pointer pl1)).cell? ⟨q, 3, none⟩ = some (.pointer pm) := by rw [hb3.cell]; rfl
 have f3 := hb3.frozen 3
 have hb4 := hb3.set 3 (.pointer pm1)
 obtain ⟨j1, j2, j3⟩ := HB2.out.frL 2 (.pointer pl1)
 obtain ⟨j4, _, _⟩ := hb3.frL 3 (.pointer pm1)
 have HG : Hid (BB W0 (B + 3) q d c dir room r.s r.g ((W2.setCell ⟨q, 2, none⟩ (.pointer pl1)).setCell ⟨q, 3, none⟩ (.pointer pm1))) :=
  ⟨T1, T2, pl1, pm1, (HA2.out.set Q0.out 2 _).set Q0.out 3 _, hb4, (HL2.out.keep j1 j2).keep j4 j2, (HS2.out.keep j1 j3).keep j4 j3, Q0.out⟩
 have hio := SideL.isnone HL2.out HS2.out
 clear hT2 c0 c1 c4 c5 HA1 HB1 HS1 HF6 HA2 HL2 HB2 HS2 HF2 hb3 hb4 j1 j2 j3 j4
 rcases hio with ⟨rfl, rfl, _⟩ | ⟨l, m, g, rfl, rfl, _⟩
 · go_wp2_with fail
   go_ret
   exact ⟨rfl, HG.out⟩
 · go_wp2_with fail
   go_ret
   exact ⟨rfl, HG.out⟩
end Go.Proofs.YtjjcilinghgphaaGreat

/-! ### Both logs stand alike (racelaw7.both.stands). -/
namespace Go.Proofs.YtjjcilinghgphaaGreat
open Go.RowKit Go.Maps Go.Sort
set_option maxRecDepth 100000
attribute [local go_sem] bs_size bs_toList
theorem LWS.lg {B : Int} {W : World} {d l : Nat} {T : Nat → Prop} {s : DS} {g : LG} (h : LWS B W d l T s g) : ∃ Sl, LgG W l d Sl g := by
 obtain ⟨Sd, Sl, _, h2, _⟩ := h
 exact ⟨Sl, h2⟩
theorem RWS.lg {W : World} {c m : Nat} {T : Nat → Prop} {s : DS} {g : LG} (h : RWS W c m T s g) : ∃ Sl, RgG W m c Sl g ∧ ∀ k, Sl k → T k := by
 obtain ⟨Sd, Sl, _, h2, _, _, h5, _⟩ := h
 exact ⟨Sl, h2, h5⟩
theorem has_in {s : DS} {g : LG} (hk : LOk s g) {k : Nat} (h : k < g.all.length) : hasL g ((g.first + k : Nat) : Int) = true := by
 have := hk.all_len
 unfold hasL
 simp; omega
set_option maxHeartbeats 8000000 in
theorem stands_any {W0 w : World} {B : Int} {q d c : Nat} {dir : List UInt8} {room : Int} {s : DS} {og : Option LG} (h : BB W0 B q d c dir room s og w) :
 Calls Tryz.prog 11 #[.pointer (some ⟨q, 0, none⟩)] w (TrueEnd w) := by
 obtain ⟨T, T', pl, pm, hT⟩ := h
 have HT := Lib.hid hT
 have hio := SideL.isnone hT.sl hT.sr
 have c0 : w.cell? ⟨q, 0, none⟩ = some (.pointer (some ⟨d, 0, none⟩)) := by rw [hT.rb.cell]; rfl
 have c1 : w.cell? ⟨q, 1, none⟩ = some (.pointer (some ⟨c, 0, none⟩)) := by rw [hT.rb.cell]; rfl
 clear hT
 go_enter Tryz.func11, Tryz.ntmps11
 go_wp2_with fail
 refine wp_region_ht 8 (fun W => W.cell? ⟨q, 0, none⟩ = some (.pointer (some ⟨d, 0, none⟩)) ∧ W.cell? ⟨q, 1, none⟩ = some (.pointer (some ⟨c, 0, none⟩))) (by kernel_rfl) (by kernel_rfl) ?_ (fun hHeld => ?_)
 · exact ⟨c0, c1⟩
 try simp only [Act.put, List.setIfInBounds_toArray, List.set_cons_zero, List.set_cons_succ]
 refine wpHT_takeD (i := 0) (d := 11) (v := ?_) (by kernel_rfl) rfl rfl (by decide) (by kernel_rfl) (by kernel_rfl) (fun _ _ _ h => h) (Or.inl ⟨by kernel_rfl, ?_⟩) (by assumption) ?_
 rotate_left
 · intro w hSw; (try dsimp only at hSw); go_simp; (try with_reducible rfl)
 try simp only [Act.put, List.setIfInBounds_toArray, List.set_cons_zero, List.set_cons_succ]
 refine wpHT_takeD (i := 1) (d := 12) (v := ?_) (by kernel_rfl) rfl rfl (by decide) (by kernel_rfl) (by kernel_rfl) (fun _ _ _ h => h) (Or.inl ⟨by kernel_rfl, ?_⟩) (by assumption) ?_
 rotate_left
 · intro w hSw; (try dsimp only at hSw); go_simp; (try with_reducible rfl)
 try simp only [Act.put, List.setIfInBounds_toArray, List.set_cons_zero, List.set_cons_succ]
 refine wpHT_takeD (i := 2) (d := 13) (v := ?_) (by kernel_rfl) rfl rfl (by decide) (by kernel_rfl) (by kernel_rfl) (fun _ _ _ h => h) (Or.inl ⟨by kernel_rfl, ?_⟩) (by assumption) ?_
 rotate_left
 · intro w hSw; (try dsimp only at hSw); go_simp; (try with_reducible rfl)
 try simp only [Act.put, List.setIfInBounds_toArray, List.set_cons_zero, List.set_cons_succ]
 refine wpHT_takeD (i := 3) (d := 14) (v := ?_) (by kernel_rfl) rfl rfl (by decide) (by kernel_rfl) (by kernel_rfl) (fun _ _ _ h => h) (Or.inl ⟨by kernel_rfl, ?_⟩) (by assumption) ?_
 rotate_left
 · intro w hSw; (try dsimp only at hSw); go_simp; (try with_reducible rfl)
 try simp only [Act.put, List.setIfInBounds_toArray, List.set_cons_zero, List.set_cons_succ]
 refine wpHT_takeD (i := 4) (d := 15) (v := ?_) (by kernel_rfl) rfl rfl (by decide) (by kernel_rfl) (by kernel_rfl) (fun _ _ _ h => h) (Or.inl ⟨by kernel_rfl, ?_⟩) (by assumption) ?_
 rotate_left
 · intro w hSw; (try dsimp only at hSw); go_simp; (try with_reducible rfl)
 try simp only [Act.put, List.setIfInBounds_toArray, List.set_cons_zero, List.set_cons_succ]
 refine wpHT_takeD (i := 5) (d := 16) (v := ?_) (by kernel_rfl) rfl rfl (by decide) (by kernel_rfl) (by kernel_rfl) (fun _ _ _ h => h) (Or.inl ⟨by kernel_rfl, ?_⟩) (by assumption) ?_
 rotate_left
 · intro w hSw; (try dsimp only at hSw); go_simp; (try with_reducible rfl)
 try simp only [Act.put, List.setIfInBounds_toArray, List.set_cons_zero, List.set_cons_succ]
 refine wpHT_takeD (i := 6) (d := 17) (v := ?_) (by kernel_rfl) rfl rfl (by decide) (by kernel_rfl) (by kernel_rfl) (fun _ _ _ h => h) (Or.inl ⟨by kernel_rfl, ?_⟩) (by assumption) ?_
 rotate_left
 · intro w hSw; (try dsimp only at hSw); go_simp; (try with_reducible rfl)
 try simp only [Act.put, List.setIfInBounds_toArray, List.set_cons_zero, List.set_cons_succ]
 refine wpHT_takeD (i := 7) (d := 18) (v := ?_) (by kernel_rfl) rfl rfl (by decide) (by kernel_rfl) (by kernel_rfl) (fun _ _ _ h => h) (Or.inl ⟨by kernel_rfl, ?_⟩) (by assumption) ?_
 rotate_left
 · intro w hSw; (try dsimp only at hSw); go_simp; (try with_reducible rfl)
 try simp only [Act.put, List.setIfInBounds_toArray, List.set_cons_zero, List.set_cons_succ]
 refine wpHT_done (by kernel_rfl) ?_
 simp only [List.drop_succ_cons, List.drop_zero]
 clear hHeld
 have hbd := (HT.out.new (Below.refl _ w).drew).bd
 have HSM := Lib.hid (same_any d T B c T' s w.drew hbd.dk hbd.rf)
 clear hbd c0 c1
 go_wp2_with fail
 go_at_call 29
 refine (HSM.out).mono ?_
 rintro e X ⟨rfl, hb⟩
 have hbX : Below w.heap.size w X := (Below.refl _ w).drew.trans hb
 have HBX := Lib.hid hbX
 have HTX := Lib.hid (HT.out.new hbX)
 clear hb hbX HSM
 have c2 : X.cell? ⟨q, 2, none⟩ = some (.pointer pl) := by rw [HTX.out.rb.cell]; rfl
 have c3 : X.cell? ⟨q, 3, none⟩ = some (.pointer pm) := by rw [HTX.out.rb.cell]; rfl
 rcases hio with ⟨rfl, rfl, _⟩ | ⟨l, m, g, rfl, rfl, rfl, _⟩
 · go_wp2_with fail
   go_ret
   exact TrueEnd.mk HBX.out
 have HALL : Hid (∀ Y, Below w.heap.size w Y → LWS B Y d l T s g ∧ RWS Y c m T' s g ∧ LOk s g ∧ Y.cell? ⟨q, 2, none⟩ = some (.pointer (some ⟨l, 0, none⟩)) ∧ Y.cell? ⟨q, 3, none⟩ = some (.pointer (some ⟨m, 0, none⟩))) := fun Y hY => by
  have hY := HT.out.new hY
  obtain ⟨l', h1, h2, h3⟩ := hY.sl
  obtain ⟨m', k1, k2⟩ := hY.sr
  cases h1
  cases k1
  exact ⟨h2, k2, h3, by rw [hY.rb.cell]; rfl, by rw [hY.rb.cell]; rfl⟩
 obtain ⟨hw1, hw2, hok, _, _⟩ := HALL.out X HBX.out
 have HK := Lib.hid hok
 have hal := hok.all_len
 have hnl := hok.next_le
 have HWA : Hid (∀ Y, Below w.heap.size w Y → Calls Tryz.prog 30 #[.pointer (some ⟨l, 0, none⟩)] Y (fun e w' => e = .returned (.int .i64 (g.first : Nat)) ∧ w' = Y) ∧ Calls Tryz.prog 21 #[.pointer (some ⟨l, 0, none⟩)] Y (fun e w' => e = .returned (.int .i64 (g.next : Nat)) ∧ ∃ n, w' = Y.drewN n) ∧
  Calls Tryz.prog 17 #[.pointer (some ⟨l, 0, none⟩)] Y (fun e w' => e = .returned (.int .i64 (g.safe : Nat)) ∧ ∃ n, w' = Y.drewN n)) := fun Y hY => by
  obtain ⟨h1, _, h3, _⟩ := HALL.out Y hY
  obtain ⟨Sl, hl⟩ := h1.lg
  exact ⟨(hl.first h3).mono fun _ _ hh => ⟨hh.1, hh.2.symm⟩, hl.next h3, hl.safe h3⟩
 have HRA : Hid (∀ Y, Below w.heap.size w Y → Calls Tryz.prog 31 #[.pointer (some ⟨m, 0, none⟩)] Y (fun e w' => e = .returned (.int .i64 (g.first : Nat)) ∧ w' = Y) ∧ Calls Tryz.prog 32 #[.pointer (some ⟨m, 0, none⟩)] Y (fun e w' => e = .returned (.int .i64 (g.next : Nat)) ∧ ∃ n, w' = Y.drewN n) ∧
  Calls Tryz.prog 33 #[.pointer (some ⟨m, 0, none⟩)] Y (fun e w' => e = .returned (.int .i64 (g.safe : Nat)) ∧ ∃ n, w' = Y.drewN n)) := fun Y hY => by
  obtain ⟨_, h2, h3, _⟩ := HALL.out Y hY
  obtain ⟨Sl, hl, _⟩ := h2.lg
  exact ⟨hl.first.mono fun _ _ hh => ⟨hh.1, hh.2.symm⟩, hl.next h3, hl.safe h3⟩
 have hhas := fun k (h : k < g.all.length) => has_in hok h
 have HHAS := Lib.hid hhas
 obtain ⟨fi, hfi⟩ : ∃ fi, g.first = fi := ⟨_, rfl⟩
 obtain ⟨nx, hnx⟩ : ∃ nx, g.next = nx := ⟨_, rfl⟩
 obtain ⟨sa, hsa⟩ : ∃ sa, g.safe = sa := ⟨_, rfl⟩
 obtain ⟨al, hall⟩ : ∃ al, g.all.length = al := ⟨_, rfl⟩
 rw [hfi, hnx, hsa] at HWA HRA
 rw [hfi, hall] at HHAS
 rw [hfi, hnx, hall] at hal
 rw [hnx] at hnl
 clear hw1 hw2 hok HTX hfi hnx hsa hall hhas
 go_wp2_with fail
 go_quiet (first | (go_at_call 30; exact Calls.quiet_of_same (HWA.out _ (below_dn HBX.out _)).1) | (go_at_call 31; exact Calls.quiet_of_same (HRA.out _ (below_dn HBX.out _)).1) | (go_at_call 21; exact Calls.quiet_of (HWA.out _ (below_dn HBX.out _)).2.1) | (go_at_call 32; exact Calls.quiet_of (HRA.out _ (below_dn HBX.out _)).2.1) | (go_at_call 17; exact Calls.quiet_of (HWA.out _ (below_dn HBX.out _)).2.2) | (go_at_call 33; exact Calls.quiet_of (HRA.out _ (below_dn HBX.out _)).2.2))
 have hbY := below_dn HBX.out nq
 obtain ⟨Y, hY⟩ : ∃ Y, X.drewN nq = Y := ⟨_, rfl⟩
 rw [hY] at hbY ⊢
 have HBY := Lib.hid hbY
 obtain ⟨_, _, _, _, c3⟩ := HALL.out Y hbY
 clear hY hbY c2
 go_wp2_with fail
 go_at_call 31
 refine ((HRA.out _ HBY.out).1).mono ?_
 rintro e Y1 ⟨rfl, rfl⟩
 go_wp2_with fail
 clear c3
 go_loopw [3, 4, 5, 6, 7, 8, 9, 10] (fun n _ _ _ _ _ _ _ wr => ∃ k : Nat, k ≤ al ∧ n = .int .i64 ((fi + k : Nat) : Int) ∧ Hid (Below w.heap.size w wr)) (fun n _ _ _ _ _ _ _ _ => fi + al - (intOf n).toNat)
 case atStart => exact ⟨0, Nat.zero_le _, rfl, HBY.out⟩
 case round =>
  clear HBY HBX
  obtain ⟨k, hk, rfl, HB⟩ := hrel
  obtain ⟨_, _, _, c2, c3⟩ := HALL.out wr HB.out
  obtain ⟨N, hN⟩ : ∃ N, fi + k = N := ⟨_, rfl⟩
  rw [hN]
  have HNX := Lib.hid (HRA.out wr HB.out).2.1
  go_wp2_with fail
  go_at_call 32
  refine (HNX.out).mono ?_
  rintro e w1 ⟨rfl, i, rfl⟩
  have hb1 := below_dn HB.out i
  have hs1 := (below_dn (Below.refl wr.heap.size wr) i).size
  obtain ⟨X1, hX1⟩ : ∃ X1, wr.drewN i = X1 := ⟨_, rfl⟩
  rw [hX1] at hb1 hs1 ⊢
  have HB1 := Lib.hid hb1
  obtain ⟨h1, h2, h3, c2, c3⟩ := HALL.out X1 hb1
  by_cases hlt : k < al
  · have hd : decide (N < nx) = true := decide_eq_true (by omega)
    have hd' : (N : Int) < (nx : Int) := by omega
    have hhas := HHAS.out k hlt
    rw [hN] at hhas
    obtain ⟨Sl, hl⟩ := h1.lg
    have hr := wread_any hl h3 (N : Int) (by omega) (by omega)
    unfold WReadPost at hr
    rw [if_pos hhas, if_pos hhas] at hr
    obtain ⟨p, hp⟩ : ∃ p, recL g (N : Int) = p := ⟨_, rfl⟩
    rw [hp] at hr
    have HRD := Lib.hid hr
    have HNK := Lib.hid hN
    have HH := Lib.hid hhas
    have HP := Lib.hid hp
    have hN9 : N ≤ 1000000000 := by omega
    clear hr hl h1 h2 h3 hhas hp hX1 hb1 hs1 hN HNX
    go_wp2_with fail
    go_at_call 34
    refine (HRD.out).mono ?_
    rintro e X2 ⟨v, rfl, hov, hb2⟩
    obtain ⟨a6, cap6, rfl, hr6⟩ := hov.rd
    have hlt6 := World.ownsRow.lt hov
    have hwb := WrB.of_own hov rfl
    have hbw2 := next_below HB1.out hb2
    obtain ⟨_, h2, h3, _, c3⟩ := HALL.out X2 hbw2
    obtain ⟨Sl, hl, hsub⟩ := h2.lg
    have hrr := rreadL_any hl h3 (N : Int) (by omega) (by omega)
    unfold RReadPost7 at hrr
    rw [if_pos HH.out, if_pos HH.out, HP.out] at hrr
    have HR6 := Lib.hid hr6
    have HW6 := Lib.hid hwb
    have HB2 := Lib.hid hbw2
    have HBK : Hid (∀ b, blk a6 = some b → X1.heap.size ≤ b) := fun b hb => (hlt6 b (by rw [ownBlock_sl]; exact hb)).1
    have HBK2 : Hid (∀ b, blk a6 = some b → b < X2.heap.size) := fun b hb => (hlt6 b (by rw [ownBlock_sl]; exact hb)).2
    have hpl : p.length ≤ maxLen := Nat.le_trans hr6.2.1 hr6.2.2.1
    unfold maxLen at hpl
    have HSL : Hid (∀ b, Sl b → b < w.heap.size) := fun b hb => HT.out.ab.l1 b (hsub b hb)
    have HRR := Lib.hid hrr
    clear hov hb2 hr6 hlt6 hwb hbw2 h2 h3 hl hrr HRD hsub
    go_wp2_with fail
    go_at_call 35
    refine (HRR.out).mono ?_
    rintro e X3' ⟨a8, c8, rfl, hr8, hbk8, i3, rfl⟩
    have hb23 := below_dn (Below.refl X2.heap.size X2) i3
    have hb3 := next_below HB2.out hb23
    have hr63 := HR6.out.below hb23
    have hw3 := HW6.out.keep (Fr.of_below hb23) (fun b hb hs => by have := HBK2.out b hb; omega)
    obtain ⟨X3, hX3⟩ : ∃ X3, X2.drewN i3 = X3 := ⟨_, rfl⟩
    rw [hX3] at hb3 hr63 hw3 hr8 ⊢
    have HB3 := Lib.hid hb3
    have HW3 := Lib.hid hw3
    have HR8 := Lib.hid hr8
    have hby := bytes_any _ _ _ _ _ _ _ _ X3 hr63 hr8
    rw [show (p == p) = true by simp] at hby
    have HBK8 := Lib.hid hbk8
    have HS1 : Hid (w.heap.size ≤ X1.heap.size) := HB1.out.size
    clear hb23 hb3 hr63 hw3 hr8 hX3 hbk8 HRR HR6 HW6 HB2 c3
    go_wp2_with (go_at_call 36; ((with_reducible refine hby.mono ?_); rintro e w' ⟨rfl, rfl⟩))
    clear hby
    go_loopw [8] (fun i wx => ∃ j : Nat, j ≤ p.length ∧ i = .int .i64 (j : Nat) ∧ Hid (WrB wx a6 p.length) ∧ Hid (Below w.heap.size X3 wx)) (fun i _ => p.length - (intOf i).toNat)
    case atStart => exact ⟨0, Nat.zero_le _, rfl, HW3.out, Below.refl _ _⟩
    case round =>
     obtain ⟨j, hj, rfl, HWX, HBX⟩ := hrel
     by_cases hlj : j < p.length
     · obtain ⟨r, u, rfl, cu, fu, hnw⟩ := HWX.out.at hlj
       have HNW := Lib.hid hnw
       clear hnw
       go_wp2_with fail
       go_roundw
       case rel => exact ⟨j + 1, by omega, by go_num, HNW.out _, HBX.out.setCell (p := ⟨r, j, none⟩) (Nat.le_trans HS1.out (HBK.out r rfl)) _⟩
       case measure => simp [intOf]; omega
     · obtain rfl : j = p.length := by omega
       have hbx := HB3.out.trans HBX.out
       have HBW := Lib.hid hbx
       obtain ⟨h1, _, h3, c2, _⟩ := HALL.out wr hbx
       obtain ⟨Sl', hl⟩ := h1.lg
       have hr := wread_any hl h3 (N : Int) (by omega) (by omega)
       unfold WReadPost at hr
       rw [if_pos HH.out, if_pos HH.out, HP.out] at hr
       have HRD := Lib.hid hr
       have hr8 : Rd8 wr a8 p.length c8 p := HR8.out.keep0 (Fr.of_below HBX.out) fun h0 b hb hs => by
        have := HSL.out b (HBK8.out h0 b hb)
        omega
       have HR8 := Lib.hid hr8
       clear hr hl h1 h3 hr8 hbx
       go_wp2_with fail
       go_at_call 34
       refine (HRD.out).mono ?_
       rintro e X4 ⟨v, rfl, hov, hb4⟩
       obtain ⟨a9, cap9, rfl, hr9⟩ := hov.rd
       have hby := bytes_any _ _ _ _ _ _ _ _ X4 hr9 (HR8.out.below hb4)
       rw [show (p == p) = true by simp] at hby
       have HB4 := Lib.hid (next_below HBW.out hb4)
       clear hov hb4 hr9 c2
       go_wp2_with (go_at_call 36; ((with_reducible refine hby.mono ?_); rintro e w' ⟨rfl, rfl⟩))
       go_roundw
       case rel => exact ⟨k + 1, by omega, by rw [← HNK.out]; go_num, HB4.out⟩
       case measure => have := HNK.out; simp [intOf]; omega
  · have hd : decide (N < nx) = false := decide_eq_false (by omega)
    have hd' : ¬ (N : Int) < (nx : Int) := by omega
    clear h1 h2 h3 hX1 hb1 hs1
    go_wp2_with fail
    go_ret
    exact TrueEnd.mk HB1.out
end Go.Proofs.YtjjcilinghgphaaGreat
