/-
  The walks of the reader: fail, number.
-/
import Derived.Test.YtecgjhjglklcnaaDoorX7
namespace Go.Proofs.YtecgjhjglklcnaaDoor
set_option maxRecDepth 100000
open Go.RowKit Go.Shelf Go.Sort
attribute [local go_sem] bs_size bs_get bs_toList frombits tobits run_store_float
/-- A reader at p over l, with its place, its fault, the fault's place. -/
def Rr (w : World) (p : Nat) (a : Option Addr) (cap : Nat) (l : List UInt8) (i f q : Int) : Prop :=
  w.cell? ⟨p, 0, none⟩ = some (.slice a l.length cap) ∧ w.cell? ⟨p, 1, none⟩ = some (.int .i64 i) ∧ w.cell? ⟨p, 2, none⟩ = some (.int .i64 f) ∧ w.cell? ⟨p, 3, none⟩ = some (.int .i64 q) ∧
  w.frozen? ⟨p, 1, none⟩ = false ∧ w.frozen? ⟨p, 2, none⟩ = false ∧ w.frozen? ⟨p, 3, none⟩ = false ∧ Rd8 w a l.length cap l ∧ blk a ≠ some p
def IsP (p k : Nat) : Prop := k = p
theorem frP {p : Nat} {w w1 : World} (h : Fr (IsP p) w w1) (o : Nat) (v : Value) : Fr (IsP p) w (w1.setCell ⟨p, o, none⟩ v) := h.setCell (p := ⟨p, o, none⟩) (fun _ => (rfl : p = p)) v
/-- What a reading does. -/
def RDone (w : World) (p : Nat) (a : Option Addr) (cap : Nat) (l : List UInt8) (i f q : Int) (w' : World) : Prop := Rr w' p a cap l i f q ∧ Fr (IsP p) w w'
theorem Rr.keep {S : Nat → Prop} {w w' : World} {p : Nat} {a : Option Addr} {cap : Nat} {l : List UInt8} {i f q : Int} (h : Rr w p a cap l i f q) (hf : Fr S w w') (hp : ¬ S p) (ha : ∀ b, blk a = some b → ¬ S b) : Rr w' p a cap l i f q := by
  obtain ⟨h0, h1, h2, h3, f1, f2, f3, hr, hn⟩ := h
  have hl : p < w.heap.size := World.block_lt_of_cell? w _ h0
  have kc : ∀ o, w'.cell? ⟨p, o, none⟩ = w.cell? ⟨p, o, none⟩ := fun o => hf.cell (p := ⟨p, o, none⟩) hl hp
  have kf : ∀ o, w'.frozen? ⟨p, o, none⟩ = w.frozen? ⟨p, o, none⟩ := fun o => hf.frozen (p := ⟨p, o, none⟩) hl hp
  exact ⟨(kc 0).trans h0, (kc 1).trans h1, (kc 2).trans h2, (kc 3).trans h3, (kf 1).trans f1, (kf 2).trans f2, (kf 3).trans f3, hr.keep hf ha, hn⟩
theorem Rr.below {w w' : World} {p : Nat} {a : Option Addr} {cap : Nat} {l : List UInt8} {i f q : Int} (h : Rr w p a cap l i f q) (hb : Below w.heap.size w w') : Rr w' p a cap l i f q :=
  h.keep (S := fun _ => False) (Fr.of_new hb) (fun h => h) (fun _ _ h => h)
theorem rd_setP {w : World} {p : Nat} {a : Option Addr} {n cap : Nat} {l : List UInt8} (h : Rd8 w a n cap l) (hn : blk a ≠ some p) (o : Nat) (v : Value) : Rd8 (w.setCell ⟨p, o, none⟩ v) a n cap l :=
  h.keep (S := IsP p) (frP (Fr.refl _ _) _ _) (fun b hb e => hn (by rw [hb]; exact congrArg some e))
theorem cell_o {w : World} {p o o' : Nat} {v u : Value} (h : w.cell? ⟨p, o', none⟩ = some u) (hne : o ≠ o') : (w.setCell ⟨p, o, none⟩ v).cell? ⟨p, o', none⟩ = some u :=
  (World.cell?_setCell_other _ _ _ _ (by intro e; exact hne (by injection e))).trans h
theorem Rr.setAt {w : World} {p : Nat} {a : Option Addr} {cap : Nat} {l : List UInt8} {i f q : Int} (h : Rr w p a cap l i f q) (j : Int) : Rr (w.setCell ⟨p, 1, none⟩ (.int .i64 j)) p a cap l j f q := by
  obtain ⟨h0, h1, h2, h3, f1, f2, f3, hr, hn⟩ := h
  exact ⟨cell_o h0 (by decide), cell_set_self' h1, cell_o h2 (by decide), cell_o h3 (by decide), by simp [f1], by simp [f2], by simp [f3], rd_setP hr hn _ _, hn⟩
theorem Rr.setF {w : World} {p : Nat} {a : Option Addr} {cap : Nat} {l : List UInt8} {i f q : Int} (h : Rr w p a cap l i f q) (j : Int) : Rr (w.setCell ⟨p, 2, none⟩ (.int .i64 j)) p a cap l i j q := by
  obtain ⟨h0, h1, h2, h3, f1, f2, f3, hr, hn⟩ := h
  exact ⟨cell_o h0 (by decide), cell_o h1 (by decide), cell_set_self' h2, cell_o h3 (by decide), by simp [f1], by simp [f2], by simp [f3], rd_setP hr hn _ _, hn⟩
theorem Rr.setQ {w : World} {p : Nat} {a : Option Addr} {cap : Nat} {l : List UInt8} {i f q : Int} (h : Rr w p a cap l i f q) (j : Int) : Rr (w.setCell ⟨p, 3, none⟩ (.int .i64 j)) p a cap l i f j := by
  obtain ⟨h0, h1, h2, h3, f1, f2, f3, hr, hn⟩ := h
  exact ⟨cell_o h0 (by decide), cell_o h1 (by decide), cell_o h2 (by decide), cell_set_self' h3, by simp [f1], by simp [f2], by simp [f3], rd_setP hr hn _ _, hn⟩
theorem RDone.same {w : World} {p : Nat} {a : Option Addr} {cap : Nat} {l : List UInt8} {i f q : Int} (h : Rr w p a cap l i f q) : RDone w p a cap l i f q w := ⟨h, Fr.refl _ _⟩
theorem RDone.next {w w1 w2 : World} {p : Nat} {a : Option Addr} {cap : Nat} {l : List UInt8} {i f q : Int} (hf : Fr (IsP p) w w1) (h : RDone w1 p a cap l i f q w2) : RDone w p a cap l i f q w2 := ⟨h.1, hf.trans h.2⟩
theorem RDone.setAt {w w1 : World} {p : Nat} {a : Option Addr} {cap : Nat} {l : List UInt8} {i f q : Int} (h : RDone w p a cap l i f q w1) (j : Int) : RDone w p a cap l j f q (w1.setCell ⟨p, 1, none⟩ (.int .i64 j)) :=
  ⟨h.1.setAt j, frP h.2 _ _⟩
theorem RDone.drewN {w w1 : World} {p : Nat} {a : Option Addr} {cap : Nat} {l : List UInt8} {i f q : Int} (h : RDone w p a cap l i f q w1) (n : Nat) : RDone w p a cap l i f q (w1.drewN n) :=
  ⟨h.1.below (below_drewN (Below.refl _ _) n), h.2.trans (Fr.of_new (below_drewN (Below.refl _ _) n))⟩
set_option maxHeartbeats 1000000 in
theorem fail_any (e q' : Int) (he : (e != 0) = true) (p : Nat) (a : Option Addr) (cap : Nat) (l : List UInt8) (i q : Int) (w : World) (h : Rr w p a cap l i 0 q) :
    Calls Tryd.prog 97 #[.pointer (some ⟨p, 0, none⟩), .int .i64 e, .int .i64 q'] w fun x w' => x = .returned (.tuple #[]) ∧ RDone w p a cap l i e q' w' := by
  have HR := Lib.hid h
  obtain ⟨h0, h1, h2, h3, f1, f2, f3, _, _⟩ := h
  have hl := World.block_lt_of_cell? w _ h0
  have g3 := cell_o (v := .int .i64 e) h3 (o := 2) (by decide)
  go_enter Tryd.func97, Tryd.ntmps97
  go_wp2
  go_end0
  exact ⟨rfl, (HR.out.setF e).setQ q', frP (frP (Fr.refl _ _) _ _) _ _⟩
set_option maxHeartbeats 1000000 in
theorem stop_any (e q' : Int) (p : Nat) (a : Option Addr) (cap : Nat) (l : List UInt8) (i q : Int) (w : World) (h : Rr w p a cap l i 0 q) :
    Calls Tryd.prog 99 #[.pointer (some ⟨p, 0, none⟩), .int .i64 e, .int .i64 q'] w fun x w' => x = .returned (.tuple #[]) ∧ RDone w p a cap l i e q' w' := by
  have HR := Lib.hid h
  obtain ⟨h0, h1, h2, h3, f1, f2, f3, _, _⟩ := h
  have hl := World.block_lt_of_cell? w _ h0
  have g3 := cell_o (v := .int .i64 e) h3 (o := 2) (by decide)
  go_enter Tryd.func99, Tryd.ntmps99
  go_wp2
  go_end0
  exact ⟨rfl, (HR.out.setF e).setQ q', frP (frP (Fr.refl _ _) _ _) _ _⟩
end Go.Proofs.YtecgjhjglklcnaaDoor
