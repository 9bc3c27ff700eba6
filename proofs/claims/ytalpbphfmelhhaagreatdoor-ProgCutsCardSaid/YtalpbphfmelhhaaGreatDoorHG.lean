/-
  A step of two values (prog.run.two).
  A step of the run (prog.run.do).
  A step of the run that writes (prog.run.do: put, drop).
-/
import Derived.Test.YtalpbphfmelhhaaGreatDoorHF
/-! ### A step of two values (prog.run.two). -/
namespace Go.Proofs.YtalpbphfmelhhaaGreatDoor
open Go.RowKit Go.Maps Go.Sort
set_option maxRecDepth 100000
attribute [local go_sem] bs_size bs_get bs_toList frombits tobits run_store_float
/-- What a step of the run leaves alone. -/
def Fw (K : Nat → Prop) (B : Nat) (w w' : World) : Prop := Below B w w' ∧ KpK K w w'
section
variable {K : Nat → Prop} {B rb m wm : Nat} {sn : List (List UInt8 × Vl)} {r : RS} {w w' w'' : World}
theorem Fw.trans (h1 : Fw K B w w') (h2 : Fw K B w' w'') : Fw K B w w'' := ⟨h1.1.trans h2.1, h1.2.trans h2.2⟩
theorem Fw.less {K' : Nat → Prop} (h1 : Fw K B w w') (hk : ∀ k, K' k → K k) : Fw K' B w w' := ⟨h1.1, h1.2.less hk⟩
theorem RnS.bw (h : RnS K B rb m wm sn r w) : B ≤ w.heap.size := by
  obtain ⟨sv, h, _⟩ := h
  exact h.bw
theorem RnS.fw (h : RnS K B rb m wm sn r w) (hb : Below w.heap.size w w') : Fw K B w w' := ⟨hb.mono h.bw, KpK.below hb h.lt⟩
theorem RnS.addV (h : RnS K B rb m wm sn r w) (o : Obj) : RnS (fun k => K k ∨ k = w.heap.size) B rb m wm sn r (w.alloc o) := h.add ((Below.refl _ _).alloc (Nat.le_refl _) _) (Nat.le_refl _) (by simp)
end
def OwnP (K : Nat → Prop) (B rb m wm : Nat) (sn : List (List UInt8 × Vl)) (w : World) (r : RS) (e : Ending) (w' : World) : Prop := e = .returned (.tuple #[]) ∧ RnS K B rb m wm sn r w' ∧ Fw K B w w'
set_option maxHeartbeats 2000000 in
theorem two_sw {K : Nat → Prop} {B rb m wm : Nat} {sn : List (List UInt8 × Vl)} {r : RS} (a b : Vl) (t : List Vl) (hr : r.st = b :: a :: t) (w : World) (h : RnS K B rb m wm sn r w) (hn : t.length ≤ 900) :
    Calls Tryz.prog 78 #[.pointer (some ⟨rb, 0, none⟩), .int .i64 15] w (OwnP K B rb m wm sn w ⟨a :: b :: t, r.wr⟩) := by
  have HR := Lib.hid h
  clear h
  go_enter Tryz.func78, Tryz.ntmps78
  go_wp2_with fail
  go_at_call 76
  refine (pop_any b (a :: t) hr w HR.out (by simp; omega)).mono ?_
  rintro e w1 ⟨rfl, h1, b1, k1⟩
  have H1 := Lib.hid h1
  have F1 : Hid (Fw K B w w1) := ⟨b1, k1⟩
  clear h1 b1 k1
  unfold VA
  go_wp2_with fail
  go_at_call 76
  have H1' := H1.out.addV (.cells #[.int .i64 b.k, .float .f64 (fb b.x), .string (bs b.s)] 48)
  refine (pop_any a t rfl _ H1' (by omega)).mono ?_
  rintro e w2 ⟨rfl, h2, b2, k2⟩
  obtain ⟨p0, p1, p2⟩ := vat w1 b.k b.x b.s 48
  have p0 := k2.cell p0 (.inr rfl)
  have p1 := k2.cell p1 (.inr rfl)
  have p2 := k2.cell p2 (.inr rfl)
  have q0 := cell_alloc_keep (o := .cells #[.int .i64 a.k, .float .f64 (fb a.x), .string (bs a.s)] 48) p0
  have q1 := cell_alloc_keep (o := .cells #[.int .i64 a.k, .float .f64 (fb a.x), .string (bs a.s)] 48) p1
  have q2 := cell_alloc_keep (o := .cells #[.int .i64 a.k, .float .f64 (fb a.x), .string (bs a.s)] 48) p2
  have H2 := Lib.hid (h2.addV (.cells #[.int .i64 a.k, .float .f64 (fb a.x), .string (bs a.s)] 48))
  have F2 : Hid (Fw K B w (w2.alloc (.cells #[.int .i64 a.k, .float .f64 (fb a.x), .string (bs a.s)] 48))) :=
    F1.out.trans ((H1.out.fw ((Below.refl _ _).alloc (Nat.le_refl _) _)).trans (Fw.less (K := fun k => K k ∨ k = w1.heap.size) (Fw.trans ⟨b2, k2⟩ (h2.fw ((Below.refl _ _).alloc (Nat.le_refl _) _))) (fun k hk => .inl hk)))
  clear H1' p0 p1 p2 h2 b2 k2
  unfold VA
  go_wp2_with fail
  go_at_call 74
  refine (push_any b _ H2.out (by simp; omega)).mono ?_
  rintro e w3 ⟨rfl, h3, b3, k3⟩
  obtain ⟨p0, p1, p2⟩ := vat w2 a.k a.x a.s 48
  have p0 := k3.cell p0 (.inr rfl)
  have p1 := k3.cell p1 (.inr rfl)
  have p2 := k3.cell p2 (.inr rfl)
  have H3 := Lib.hid h3
  have F3 : Hid (Fw K B w w3) := F2.out.trans (Fw.less ⟨b3, k3⟩ (fun k hk => .inl (.inl hk)))
  clear h3 b3 k3 q0 q1 q2
  go_wp2_with fail
  go_at_call 74
  refine (push_any a _ H3.out (by simp; omega)).mono ?_
  rintro e w4 ⟨rfl, h4, b4, k4⟩
  have H4 : Hid (OwnP K B rb m wm sn w ⟨a :: b :: t, r.wr⟩ (.returned (.tuple #[])) w4) := ⟨rfl, h4.less (fun k hk => .inl (.inl hk)), F3.out.trans (Fw.less ⟨b4, k4⟩ (fun k hk => .inl (.inl hk)))⟩
  clear h4 b4 k4 p0 p1 p2
  go_wp2_with fail
  refine bodyPost_end (results_none rfl _ _ _) rfl ?_
  exact H4.out
set_option maxHeartbeats 2000000 in
theorem two_less {K : Nat → Prop} {B rb m wm : Nat} {sn : List (List UInt8 × Vl)} {r : RS} (a b : Vl) (t : List Vl) (hr : r.st = b :: a :: t) (w : World) (h : RnS K B rb m wm sn r w) (hn : t.length ≤ 900) :
    Calls Tryz.prog 78 #[.pointer (some ⟨rb, 0, none⟩), .int .i64 11] w (OwnP K B rb m wm sn w ⟨Vl.ofB (decide (cmpL a b < 0)) :: t, r.wr⟩) := by
  have HR := Lib.hid h
  clear h
  have HC : Hid (∀ W, Calls Tryz.prog 103 #[.agg #[.int .i64 a.k, .float .f64 (fb a.x), .string (bs a.s)], .agg #[.int .i64 b.k, .float .f64 (fb b.x), .string (bs b.s)]] W fun e w' => e = .returned (.int .i64 (cmpL a b)) ∧ Below W.heap.size W w') := fun W => by apply ccmp; rfl
  generalize cmpL a b = c at HC ⊢
  have HT := Lib.hid (truth_any (decide (c < 0)))
  generalize Vl.ofB (decide (c < 0)) = v at HT ⊢
  unfold VA at HT
  go_enter Tryz.func78, Tryz.ntmps78
  go_wp2_with fail
  go_at_call 76
  refine (pop_any b (a :: t) hr w HR.out (by simp; omega)).mono ?_
  rintro e w1 ⟨rfl, h1, b1, k1⟩
  have H1 := Lib.hid h1
  have F1 : Hid (Fw K B w w1) := ⟨b1, k1⟩
  clear h1 b1 k1
  unfold VA
  go_wp2_with fail
  go_at_call 76
  have H1' := H1.out.addV (.cells #[.int .i64 b.k, .float .f64 (fb b.x), .string (bs b.s)] 48)
  refine (pop_any a t rfl _ H1' (by omega)).mono ?_
  rintro e w2 ⟨rfl, h2, b2, k2⟩
  obtain ⟨p0, p1, p2⟩ := vat w1 b.k b.x b.s 48
  have p0 := k2.cell p0 (.inr rfl)
  have p1 := k2.cell p1 (.inr rfl)
  have p2 := k2.cell p2 (.inr rfl)
  have q0 := cell_alloc_keep (o := .cells #[.int .i64 a.k, .float .f64 (fb a.x), .string (bs a.s)] 48) p0
  have q1 := cell_alloc_keep (o := .cells #[.int .i64 a.k, .float .f64 (fb a.x), .string (bs a.s)] 48) p1
  have q2 := cell_alloc_keep (o := .cells #[.int .i64 a.k, .float .f64 (fb a.x), .string (bs a.s)] 48) p2
  have H2 := Lib.hid (h2.addV (.cells #[.int .i64 a.k, .float .f64 (fb a.x), .string (bs a.s)] 48))
  have F2 : Hid (Fw K B w (w2.alloc (.cells #[.int .i64 a.k, .float .f64 (fb a.x), .string (bs a.s)] 48))) :=
    F1.out.trans ((H1.out.fw ((Below.refl _ _).alloc (Nat.le_refl _) _)).trans (Fw.less (K := fun k => K k ∨ k = w1.heap.size) (Fw.trans ⟨b2, k2⟩ (h2.fw ((Below.refl _ _).alloc (Nat.le_refl _) _))) (fun k hk => .inl hk)))
  clear H1' p0 p1 p2 h2 b2 k2
  unfold VA
  go_wp2_with (go_at_call 103; ((with_reducible refine (HC.out _).mono ?_); rintro e w3 ⟨rfl, hb3⟩))
  have H3 := Lib.hid (H2.out.new hb3)
  have F3 := Lib.hid (F2.out.trans (Fw.less (H2.out.fw hb3) (fun k hk => .inl (.inl hk))))
  clear hb3 q0 q1 q2
  go_at_call 102
  refine (HT.out w3).mono ?_
  rintro e w4 ⟨rfl, hb4⟩
  have H4 := Lib.hid (H3.out.new hb4)
  have F4 := Lib.hid (F3.out.trans (Fw.less (H3.out.fw hb4) (fun k hk => .inl (.inl hk))))
  clear hb4
  go_wp2_with fail
  go_at_call 74
  refine (push_any v _ H4.out (by simp; omega)).mono ?_
  rintro e w5 ⟨rfl, h5, b5, k5⟩
  have H5 : Hid (OwnP K B rb m wm sn w ⟨v :: t, r.wr⟩ (.returned (.tuple #[])) w5) := ⟨rfl, h5.less (fun k hk => .inl (.inl hk)), F4.out.trans (Fw.less ⟨b5, k5⟩ (fun k hk => .inl (.inl hk)))⟩
  clear h5 b5 k5
  go_wp2_with fail
  refine bodyPost_end (results_none rfl _ _ _) rfl ?_
  exact H5.out
set_option maxHeartbeats 2000000 in
theorem two_same {K : Nat → Prop} {B rb m wm : Nat} {sn : List (List UInt8 × Vl)} {r : RS} (a b : Vl) (t : List Vl) (hr : r.st = b :: a :: t) (w : World) (h : RnS K B rb m wm sn r w) (hn : t.length ≤ 900) :
    Calls Tryz.prog 78 #[.pointer (some ⟨rb, 0, none⟩), .int .i64 12] w (OwnP K B rb m wm sn w ⟨Vl.ofB (decide (cmpL a b = 0)) :: t, r.wr⟩) := by
  have HR := Lib.hid h
  clear h
  have HC : Hid (∀ W, Calls Tryz.prog 103 #[.agg #[.int .i64 a.k, .float .f64 (fb a.x), .string (bs a.s)], .agg #[.int .i64 b.k, .float .f64 (fb b.x), .string (bs b.s)]] W fun e w' => e = .returned (.int .i64 (cmpL a b)) ∧ Below W.heap.size W w') := fun W => by apply ccmp; rfl
  generalize cmpL a b = c at HC ⊢
  have HT := Lib.hid (truth_any (decide (c = 0)))
  generalize Vl.ofB (decide (c = 0)) = v at HT ⊢
  unfold VA at HT
  go_enter Tryz.func78, Tryz.ntmps78
  go_wp2_with fail
  go_at_call 76
  refine (pop_any b (a :: t) hr w HR.out (by simp; omega)).mono ?_
  rintro e w1 ⟨rfl, h1, b1, k1⟩
  have H1 := Lib.hid h1
  have F1 : Hid (Fw K B w w1) := ⟨b1, k1⟩
  clear h1 b1 k1
  unfold VA
  go_wp2_with fail
  go_at_call 76
  have H1' := H1.out.addV (.cells #[.int .i64 b.k, .float .f64 (fb b.x), .string (bs b.s)] 48)
  refine (pop_any a t rfl _ H1' (by omega)).mono ?_
  rintro e w2 ⟨rfl, h2, b2, k2⟩
  obtain ⟨p0, p1, p2⟩ := vat w1 b.k b.x b.s 48
  have p0 := k2.cell p0 (.inr rfl)
  have p1 := k2.cell p1 (.inr rfl)
  have p2 := k2.cell p2 (.inr rfl)
  have q0 := cell_alloc_keep (o := .cells #[.int .i64 a.k, .float .f64 (fb a.x), .string (bs a.s)] 48) p0
  have q1 := cell_alloc_keep (o := .cells #[.int .i64 a.k, .float .f64 (fb a.x), .string (bs a.s)] 48) p1
  have q2 := cell_alloc_keep (o := .cells #[.int .i64 a.k, .float .f64 (fb a.x), .string (bs a.s)] 48) p2
  have H2 := Lib.hid (h2.addV (.cells #[.int .i64 a.k, .float .f64 (fb a.x), .string (bs a.s)] 48))
  have F2 : Hid (Fw K B w (w2.alloc (.cells #[.int .i64 a.k, .float .f64 (fb a.x), .string (bs a.s)] 48))) :=
    F1.out.trans ((H1.out.fw ((Below.refl _ _).alloc (Nat.le_refl _) _)).trans (Fw.less (K := fun k => K k ∨ k = w1.heap.size) (Fw.trans ⟨b2, k2⟩ (h2.fw ((Below.refl _ _).alloc (Nat.le_refl _) _))) (fun k hk => .inl hk)))
  clear H1' p0 p1 p2 h2 b2 k2
  unfold VA
  go_wp2_with (go_at_call 103; ((with_reducible refine (HC.out _).mono ?_); rintro e w3 ⟨rfl, hb3⟩))
  have H3 := Lib.hid (H2.out.new hb3)
  have F3 := Lib.hid (F2.out.trans (Fw.less (H2.out.fw hb3) (fun k hk => .inl (.inl hk))))
  clear hb3 q0 q1 q2
  go_at_call 102
  refine (HT.out w3).mono ?_
  rintro e w4 ⟨rfl, hb4⟩
  have H4 := Lib.hid (H3.out.new hb4)
  have F4 := Lib.hid (F3.out.trans (Fw.less (H3.out.fw hb4) (fun k hk => .inl (.inl hk))))
  clear hb4
  go_wp2_with fail
  go_at_call 74
  refine (push_any v _ H4.out (by simp; omega)).mono ?_
  rintro e w5 ⟨rfl, h5, b5, k5⟩
  have H5 : Hid (OwnP K B rb m wm sn w ⟨v :: t, r.wr⟩ (.returned (.tuple #[])) w5) := ⟨rfl, h5.less (fun k hk => .inl (.inl hk)), F4.out.trans (Fw.less ⟨b5, k5⟩ (fun k hk => .inl (.inl hk)))⟩
  clear h5 b5 k5
  go_wp2_with fail
  refine bodyPost_end (results_none rfl _ _ _) rfl ?_
  exact H5.out
set_option maxHeartbeats 2000000 in
theorem two_num {K : Nat → Prop} {B rb m wm : Nat} {sn : List (List UInt8 × Vl)} {r : RS} (a b : Vl) (t : List Vl) (hr : r.st = b :: a :: t) (w : World) (h : RnS K B rb m wm sn r w) (hn : t.length ≤ 900) (c : Int) (h11 : c ≠ 11) (h12 : c ≠ 12) (h15 : c ≠ 15) (ha : a.k ≠ 2) (hb : b.k ≠ 2) :
    Calls Tryz.prog 78 #[.pointer (some ⟨rb, 0, none⟩), .int .i64 c] w (OwnP K B rb m wm sn w ⟨Vl.num (recX c a.x b.x) :: t, r.wr⟩) := by
  have HR := Lib.hid h
  clear h
  have g1 : (c == 11) = false := by simp [h11]
  have g2 : (c == 12) = false := by simp [h12]
  have g3 : (c == 15) = false := by simp [h15]
  have HC := Lib.hid (reckon_ok c a b ha hb)
  generalize Vl.num (recX c a.x b.x) = v at HC ⊢
  unfold VA at HC
  go_enter Tryz.func78, Tryz.ntmps78
  go_wp2_with fail
  go_at_call 76
  refine (pop_any b (a :: t) hr w HR.out (by simp; omega)).mono ?_
  rintro e w1 ⟨rfl, h1, b1, k1⟩
  have H1 := Lib.hid h1
  have F1 : Hid (Fw K B w w1) := ⟨b1, k1⟩
  clear h1 b1 k1
  unfold VA
  go_wp2_with fail
  go_at_call 76
  have H1' := H1.out.addV (.cells #[.int .i64 b.k, .float .f64 (fb b.x), .string (bs b.s)] 48)
  refine (pop_any a t rfl _ H1' (by omega)).mono ?_
  rintro e w2 ⟨rfl, h2, b2, k2⟩
  obtain ⟨p0, p1, p2⟩ := vat w1 b.k b.x b.s 48
  have p0 := k2.cell p0 (.inr rfl)
  have p1 := k2.cell p1 (.inr rfl)
  have p2 := k2.cell p2 (.inr rfl)
  have q0 := cell_alloc_keep (o := .cells #[.int .i64 a.k, .float .f64 (fb a.x), .string (bs a.s)] 48) p0
  have q1 := cell_alloc_keep (o := .cells #[.int .i64 a.k, .float .f64 (fb a.x), .string (bs a.s)] 48) p1
  have q2 := cell_alloc_keep (o := .cells #[.int .i64 a.k, .float .f64 (fb a.x), .string (bs a.s)] 48) p2
  have H2 := Lib.hid (h2.addV (.cells #[.int .i64 a.k, .float .f64 (fb a.x), .string (bs a.s)] 48))
  have F2 : Hid (Fw K B w (w2.alloc (.cells #[.int .i64 a.k, .float .f64 (fb a.x), .string (bs a.s)] 48))) :=
    F1.out.trans ((H1.out.fw ((Below.refl _ _).alloc (Nat.le_refl _) _)).trans (Fw.less (K := fun k => K k ∨ k = w1.heap.size) (Fw.trans ⟨b2, k2⟩ (h2.fw ((Below.refl _ _).alloc (Nat.le_refl _) _))) (fun k hk => .inl hk)))
  clear H1' p0 p1 p2 h2 b2 k2
  unfold VA
  go_wp2_with (go_at_call 104; ((with_reducible refine (HC.out _).mono ?_); rintro e w3 ⟨rfl, hb3⟩))
  have H3 := Lib.hid (H2.out.new hb3)
  have F3 := Lib.hid (F2.out.trans (Fw.less (H2.out.fw hb3) (fun k hk => .inl (.inl hk))))
  clear hb3 q0 q1 q2
  go_at_call 74
  refine (push_any v _ H3.out (by simp; omega)).mono ?_
  rintro e w5 ⟨rfl, h5, b5, k5⟩
  have H5 : Hid (OwnP K B rb m wm sn w ⟨v :: t, r.wr⟩ (.returned (.tuple #[])) w5) := ⟨rfl, h5.less (fun k hk => .inl (.inl hk)), F3.out.trans (Fw.less ⟨b5, k5⟩ (fun k hk => .inl (.inl hk)))⟩
  clear h5 b5 k5
  go_wp2_with fail
  refine bodyPost_end (results_none rfl _ _ _) rfl ?_
  exact H5.out
set_option maxHeartbeats 2000000 in
theorem two_bad {K : Nat → Prop} {B rb m wm : Nat} {sn : List (List UInt8 × Vl)} {r : RS} (a b : Vl) (t : List Vl) (hr : r.st = b :: a :: t) (w : World) (h : RnS K B rb m wm sn r w) (hn : t.length ≤ 900) (c : Int) (h11 : c ≠ 11) (h12 : c ≠ 12) (h15 : c ≠ 15) (hab : a.k = 2 ∨ b.k = 2) :
    Calls Tryz.prog 78 #[.pointer (some ⟨rb, 0, none⟩), .int .i64 c] w (fun e w' => e = .panicked (stopI 23) ∧ Fw K B w w') := by
  have HR := Lib.hid h
  clear h
  have g1 : (c == 11) = false := by simp [h11]
  have g2 : (c == 12) = false := by simp [h12]
  have g3 : (c == 15) = false := by simp [h15]
  have HC := Lib.hid (reckon_bad c a b hab)
  go_enter Tryz.func78, Tryz.ntmps78
  go_wp2_with fail
  go_at_call 76
  refine (pop_any b (a :: t) hr w HR.out (by simp; omega)).mono ?_
  rintro e w1 ⟨rfl, h1, b1, k1⟩
  have H1 := Lib.hid h1
  have F1 : Hid (Fw K B w w1) := ⟨b1, k1⟩
  clear h1 b1 k1
  unfold VA
  go_wp2_with fail
  go_at_call 76
  have H1' := H1.out.addV (.cells #[.int .i64 b.k, .float .f64 (fb b.x), .string (bs b.s)] 48)
  refine (pop_any a t rfl _ H1' (by omega)).mono ?_
  rintro e w2 ⟨rfl, h2, b2, k2⟩
  obtain ⟨p0, p1, p2⟩ := vat w1 b.k b.x b.s 48
  have p0 := k2.cell p0 (.inr rfl)
  have p1 := k2.cell p1 (.inr rfl)
  have p2 := k2.cell p2 (.inr rfl)
  have q0 := cell_alloc_keep (o := .cells #[.int .i64 a.k, .float .f64 (fb a.x), .string (bs a.s)] 48) p0
  have q1 := cell_alloc_keep (o := .cells #[.int .i64 a.k, .float .f64 (fb a.x), .string (bs a.s)] 48) p1
  have q2 := cell_alloc_keep (o := .cells #[.int .i64 a.k, .float .f64 (fb a.x), .string (bs a.s)] 48) p2
  have H2 := Lib.hid (h2.addV (.cells #[.int .i64 a.k, .float .f64 (fb a.x), .string (bs a.s)] 48))
  have F2 : Hid (Fw K B w (w2.alloc (.cells #[.int .i64 a.k, .float .f64 (fb a.x), .string (bs a.s)] 48))) :=
    F1.out.trans ((H1.out.fw ((Below.refl _ _).alloc (Nat.le_refl _) _)).trans (Fw.less (K := fun k => K k ∨ k = w1.heap.size) (Fw.trans ⟨b2, k2⟩ (h2.fw ((Below.refl _ _).alloc (Nat.le_refl _) _))) (fun k hk => .inl hk)))
  clear H1' p0 p1 p2 h2 b2 k2
  unfold VA
  go_wp2_with (go_at_call 104; ((with_reducible refine (HC.out _).mono ?_); rintro e w3 ⟨rfl, hb3⟩))
  have F3 := Lib.hid (F2.out.trans (Fw.less (H2.out.fw hb3) (fun k hk => .inl (.inl hk))))
  clear hb3 q0 q1 q2
  go_wp2_with fail
  exact ⟨rfl, rfl, F3.out⟩
end Go.Proofs.YtalpbphfmelhhaaGreatDoor

/-! ### A step of the run (prog.run.do). -/
namespace Go.Proofs.YtalpbphfmelhhaaGreatDoor
open Go.RowKit Go.Maps Go.Sort
set_option maxRecDepth 100000
attribute [local go_sem] bs_size bs_get bs_toList frombits tobits run_store_float
theorem two_ok {K : Nat → Prop} {B rb m wm : Nat} {sn : List (List UInt8 × Vl)} {r : RS} (c : Int) (a b : Vl) (t : List Vl) (hr : r.st = b :: a :: t) (hn : t.length ≤ 900) (hz : (twoP c a b).2 = 0) (w : World) (h : RnS K B rb m wm sn r w) :
    Calls Tryz.prog 78 #[.pointer (some ⟨rb, 0, none⟩), .int .i64 c] w (OwnP K B rb m wm sn w ⟨(twoP c a b).1 ++ t, r.wr⟩) := by
  unfold twoP at hz ⊢
  by_cases h11 : c = 11
  · rw [if_pos h11]; subst h11; exact two_less a b t hr w h hn
  · rw [if_neg h11] at hz ⊢
    by_cases h12 : c = 12
    · rw [if_pos h12]; subst h12; exact two_same a b t hr w h hn
    · rw [if_neg h12] at hz ⊢
      by_cases h15 : c = 15
      · rw [if_pos h15]; subst h15; exact two_sw a b t hr w h hn
      · rw [if_neg h15] at hz ⊢
        by_cases hk : a.k = 2 ∨ b.k = 2
        · rw [if_pos hk] at hz; cases hz
        · rw [if_neg hk]
          exact two_num a b t hr w h hn c h11 h12 h15 (fun e => hk (.inl e)) (fun e => hk (.inr e))
theorem two_no {K : Nat → Prop} {B rb m wm : Nat} {sn : List (List UInt8 × Vl)} {r : RS} (c : Int) (a b : Vl) (t : List Vl) (hr : r.st = b :: a :: t) (hn : t.length ≤ 900) (hz : (twoP c a b).2 ≠ 0) (w : World) (h : RnS K B rb m wm sn r w) :
    Calls Tryz.prog 78 #[.pointer (some ⟨rb, 0, none⟩), .int .i64 c] w (fun e w' => e = .panicked (stopI 23) ∧ Fw K B w w') := by
  unfold twoP at hz
  by_cases h11 : c = 11
  · rw [if_pos h11] at hz; exact absurd rfl hz
  · rw [if_neg h11] at hz
    by_cases h12 : c = 12
    · rw [if_pos h12] at hz; exact absurd rfl hz
    · rw [if_neg h12] at hz
      by_cases h15 : c = 15
      · rw [if_pos h15] at hz; exact absurd rfl hz
      · rw [if_neg h15] at hz
        by_cases hk : a.k = 2 ∨ b.k = 2
        · exact two_bad a b t hr w h hn c h11 h12 h15 hk
        · rw [if_neg hk] at hz; exact absurd rfl hz
set_option maxHeartbeats 2000000 in
theorem do_get {K : Nat → Prop} {B rb m wm : Nat} {sn : List (List UInt8 × Vl)} {r : RS} (key : List UInt8) (v : Vl) (w : World) (h : RnS K B rb m wm sn r w) (hn : r.st.length ≤ 800) (hk : key.length ≤ maxLen) (u : Vl) (hu : (getG key r.wr).getD ((getG key sn).getD Vl.nil) = u) :
    Calls Tryz.prog 45 #[.pointer (some ⟨rb, 0, none⟩), .agg #[.int .i64 1, .string (bs key), .int .i64 v.k, .float .f64 (fb v.x), .string (bs v.s)]] w (OwnP K B rb m wm sn w ⟨u :: r.st, r.wr⟩) := by
  have HR := Lib.hid h
  have hb0 : Below w.heap.size w (w.alloc (.cells #[.int .i64 1, .string (bs key), .int .i64 v.k, .float .f64 (fb v.x), .string (bs v.s)] 59)) := (Below.refl _ _).alloc (Nat.le_refl _) _
  have HB := Lib.hid (h.new hb0)
  have F0 := Lib.hid (h.fw hb0)
  clear h hb0
  have HG := Lib.hid (get_any key hk _ HB.out)
  rw [hu] at HG
  clear hu
  unfold VA at HG
  go_enter Tryz.func45, Tryz.ntmps45
  go_wp2_with fail
  go_at_call 75
  refine HG.out.mono ?_
  rintro e w2 ⟨rfl, hb2⟩
  have H2 := Lib.hid (HB.out.new hb2)
  have F2 := Lib.hid (F0.out.trans (HB.out.fw hb2))
  clear hb2
  go_wp2_with fail
  go_at_call 74
  refine (push_any u _ H2.out (by omega)).mono ?_
  rintro e w3 ⟨rfl, h3, b3, k3⟩
  have HF : Hid (OwnP K B rb m wm sn w ⟨u :: r.st, r.wr⟩ (.returned (.tuple #[])) w3) := ⟨rfl, h3, F2.out.trans ⟨b3, k3⟩⟩
  clear h3 b3 k3
  go_wp2_with fail
  refine bodyPost_end (results_none rfl _ _ _) rfl ?_
  exact HF.out
set_option maxHeartbeats 2000000 in
theorem do_push {K : Nat → Prop} {B rb m wm : Nat} {sn : List (List UInt8 × Vl)} {r : RS} (key : List UInt8) (v : Vl) (w : World) (h : RnS K B rb m wm sn r w) (hn : r.st.length ≤ 800) :
    Calls Tryz.prog 45 #[.pointer (some ⟨rb, 0, none⟩), .agg #[.int .i64 4, .string (bs key), .int .i64 v.k, .float .f64 (fb v.x), .string (bs v.s)]] w (OwnP K B rb m wm sn w ⟨v :: r.st, r.wr⟩) := by
  have HR := Lib.hid h
  have hb0 : Below w.heap.size w (w.alloc (.cells #[.int .i64 4, .string (bs key), .int .i64 v.k, .float .f64 (fb v.x), .string (bs v.s)] 59)) := (Below.refl _ _).alloc (Nat.le_refl _) _
  have HB := Lib.hid (h.new hb0)
  have F0 := Lib.hid (h.fw hb0)
  clear h hb0
  go_enter Tryz.func45, Tryz.ntmps45
  go_wp2_with fail
  go_at_call 74
  refine (push_any v _ HB.out (by omega)).mono ?_
  rintro e w3 ⟨rfl, h3, b3, k3⟩
  have HF : Hid (OwnP K B rb m wm sn w ⟨v :: r.st, r.wr⟩ (.returned (.tuple #[])) w3) := ⟨rfl, h3, F0.out.trans ⟨b3, k3⟩⟩
  clear h3 b3 k3
  go_wp2_with fail
  refine bodyPost_end (results_none rfl _ _ _) rfl ?_
  exact HF.out
set_option maxHeartbeats 2000000 in
theorem do_need {K : Nat → Prop} {B rb m wm : Nat} {sn : List (List UInt8 × Vl)} {r : RS} (key : List UInt8) (v : Vl) (w : World) (h : RnS K B rb m wm sn r w) (hn : r.st.length ≤ 800) (b : Vl) (t : List Vl) (hr : r.st = b :: t) (hh : holdsB b = true) :
    Calls Tryz.prog 45 #[.pointer (some ⟨rb, 0, none⟩), .agg #[.int .i64 13, .string (bs key), .int .i64 v.k, .float .f64 (fb v.x), .string (bs v.s)]] w (OwnP K B rb m wm sn w ⟨t, r.wr⟩) := by
  have HR := Lib.hid h
  have hb0 : Below w.heap.size w (w.alloc (.cells #[.int .i64 13, .string (bs key), .int .i64 v.k, .float .f64 (fb v.x), .string (bs v.s)] 59)) := (Below.refl _ _).alloc (Nat.le_refl _) _
  have HB := Lib.hid (h.new hb0)
  have F0 := Lib.hid (h.fw hb0)
  clear h hb0
  have HH := Lib.hid (holds_any b)
  rw [hh] at HH
  clear hh
  go_enter Tryz.func45, Tryz.ntmps45
  go_wp2_with fail
  go_at_call 76
  refine (pop_any b t hr _ HB.out (by rw [hr] at hn; simp at hn; omega)).mono ?_
  rintro e w2 ⟨rfl, h2, b2, k2⟩
  have H2 := Lib.hid h2
  have F2 : Hid (Fw K B w w2) := F0.out.trans ⟨b2, k2⟩
  clear h2 b2 k2
  unfold VA
  go_wp2_with (go_at_call 77; ((with_reducible refine (HH.out _).mono ?_); rintro e w3 ⟨rfl, hb3⟩))
  have HF : Hid (OwnP K B rb m wm sn w ⟨t, r.wr⟩ (.returned (.tuple #[])) w3) := ⟨rfl, H2.out.new hb3, F2.out.trans (H2.out.fw hb3)⟩
  clear hb3
  go_wp2_with fail
  refine bodyPost_end (results_none rfl _ _ _) rfl ?_
  exact HF.out
set_option maxHeartbeats 2000000 in
theorem do_fail {K : Nat → Prop} {B rb m wm : Nat} {sn : List (List UInt8 × Vl)} {r : RS} (key : List UInt8) (v : Vl) (w : World) (h : RnS K B rb m wm sn r w) (hn : r.st.length ≤ 800) (b : Vl) (t : List Vl) (hr : r.st = b :: t) (hh : holdsB b = false) :
    Calls Tryz.prog 45 #[.pointer (some ⟨rb, 0, none⟩), .agg #[.int .i64 13, .string (bs key), .int .i64 v.k, .float .f64 (fb v.x), .string (bs v.s)]] w (fun e w' => e = .panicked (stopI 22) ∧ Fw K B w w') := by
  have HR := Lib.hid h
  have hb0 : Below w.heap.size w (w.alloc (.cells #[.int .i64 13, .string (bs key), .int .i64 v.k, .float .f64 (fb v.x), .string (bs v.s)] 59)) := (Below.refl _ _).alloc (Nat.le_refl _) _
  have HB := Lib.hid (h.new hb0)
  have F0 := Lib.hid (h.fw hb0)
  clear h hb0
  have HH := Lib.hid (holds_any b)
  rw [hh] at HH
  clear hh
  go_enter Tryz.func45, Tryz.ntmps45
  go_wp2_with fail
  go_at_call 76
  refine (pop_any b t hr _ HB.out (by rw [hr] at hn; simp at hn; omega)).mono ?_
  rintro e w2 ⟨rfl, h2, b2, k2⟩
  have H2 := Lib.hid h2
  have F2 : Hid (Fw K B w w2) := F0.out.trans ⟨b2, k2⟩
  clear h2 b2 k2
  unfold VA
  go_wp2_with (go_at_call 77; ((with_reducible refine (HH.out _).mono ?_); rintro e w3 ⟨rfl, hb3⟩))
  exact ⟨rfl, rfl, F2.out.trans (H2.out.fw hb3)⟩
set_option maxHeartbeats 2000000 in
theorem do_dup {K : Nat → Prop} {B rb m wm : Nat} {sn : List (List UInt8 × Vl)} {r : RS} (key : List UInt8) (v : Vl) (w : World) (h : RnS K B rb m wm sn r w) (hn : r.st.length ≤ 800) (b : Vl) (t : List Vl) (hr : r.st = b :: t) :
    Calls Tryz.prog 45 #[.pointer (some ⟨rb, 0, none⟩), .agg #[.int .i64 14, .string (bs key), .int .i64 v.k, .float .f64 (fb v.x), .string (bs v.s)]] w (OwnP K B rb m wm sn w ⟨b :: b :: t, r.wr⟩) := by
  have HR := Lib.hid h
  have hb0 : Below w.heap.size w (w.alloc (.cells #[.int .i64 14, .string (bs key), .int .i64 v.k, .float .f64 (fb v.x), .string (bs v.s)] 59)) := (Below.refl _ _).alloc (Nat.le_refl _) _
  have HB := Lib.hid (h.new hb0)
  have F0 := Lib.hid (h.fw hb0)
  clear h hb0
  go_enter Tryz.func45, Tryz.ntmps45
  go_wp2_with fail
  go_at_call 76
  refine (pop_any b t hr _ HB.out (by rw [hr] at hn; simp at hn; omega)).mono ?_
  rintro e w2 ⟨rfl, h2, b2, k2⟩
  have H2 := Lib.hid (h2.addV (.cells #[.int .i64 b.k, .float .f64 (fb b.x), .string (bs b.s)] 48))
  have F2 : Hid (Fw K B w (w2.alloc (.cells #[.int .i64 b.k, .float .f64 (fb b.x), .string (bs b.s)] 48))) := (F0.out.trans ⟨b2, k2⟩).trans (h2.fw ((Below.refl _ _).alloc (Nat.le_refl _) _))
  clear h2 b2 k2
  unfold VA
  go_wp2_with fail
  go_at_call 74
  refine (push_any b _ H2.out (by rw [hr] at hn; simp at hn ⊢; omega)).mono ?_
  rintro e w3 ⟨rfl, h3, b3, k3⟩
  obtain ⟨p0, p1, p2⟩ := vat w2 b.k b.x b.s 48
  have p0 := k3.cell p0 (.inr rfl)
  have p1 := k3.cell p1 (.inr rfl)
  have p2 := k3.cell p2 (.inr rfl)
  have H3 := Lib.hid h3
  have F3 : Hid (Fw K B w w3) := F2.out.trans (Fw.less ⟨b3, k3⟩ (fun k hk => .inl hk))
  clear h3 b3 k3
  go_wp2_with fail
  go_at_call 74
  refine (push_any b _ H3.out (by rw [hr] at hn; simp at hn ⊢; omega)).mono ?_
  rintro e w4 ⟨rfl, h4, b4, k4⟩
  have HF : Hid (OwnP K B rb m wm sn w ⟨b :: b :: t, r.wr⟩ (.returned (.tuple #[])) w4) := ⟨rfl, h4.less (fun k hk => .inl hk), F3.out.trans (Fw.less ⟨b4, k4⟩ (fun k hk => .inl hk))⟩
  clear h4 b4 k4 p0 p1 p2
  go_wp2_with fail
  refine bodyPost_end (results_none rfl _ _ _) rfl ?_
  exact HF.out
set_option maxHeartbeats 2000000 in
theorem do_two {K : Nat → Prop} {B rb m wm : Nat} {sn : List (List UInt8 × Vl)} {r : RS} (key : List UInt8) (v : Vl) (w : World) (h : RnS K B rb m wm sn r w) (hn : r.st.length ≤ 800) (c : Int) (hc : c ≠ 1 ∧ c ≠ 2 ∧ c ≠ 3 ∧ c ≠ 4 ∧ c ≠ 13 ∧ c ≠ 14) (a b : Vl) (t : List Vl) (hr : r.st = b :: a :: t) (hz : (twoP c a b).2 = 0) :
    Calls Tryz.prog 45 #[.pointer (some ⟨rb, 0, none⟩), .agg #[.int .i64 c, .string (bs key), .int .i64 v.k, .float .f64 (fb v.x), .string (bs v.s)]] w (OwnP K B rb m wm sn w ⟨(twoP c a b).1 ++ t, r.wr⟩) := by
  have HR := Lib.hid h
  have hb0 : Below w.heap.size w (w.alloc (.cells #[.int .i64 c, .string (bs key), .int .i64 v.k, .float .f64 (fb v.x), .string (bs v.s)] 59)) := (Below.refl _ _).alloc (Nat.le_refl _) _
  have HB := Lib.hid (h.new hb0)
  have F0 := Lib.hid (h.fw hb0)
  clear h hb0
  have HT := Lib.hid (two_ok c a b t hr (hn := by rw [hr] at hn; simp at hn; omega) hz _ HB.out)
  clear hz
  have g1 : (c == 1) = false := by simp [hc.1]
  have g2 : (c == 2) = false := by simp [hc.2.1]
  have g3 : (c == 3) = false := by simp [hc.2.2.1]
  have g4 : (c == 4) = false := by simp [hc.2.2.2.1]
  have g5 : (c == 13) = false := by simp [hc.2.2.2.2.1]
  have g6 : (c == 14) = false := by simp [hc.2.2.2.2.2]
  go_enter Tryz.func45, Tryz.ntmps45
  go_wp2_with fail
  go_at_call 78
  refine HT.out.mono ?_
  rintro e w2 ⟨rfl, h2, f2⟩
  have HF : Hid (OwnP K B rb m wm sn w ⟨(twoP c a b).1 ++ t, r.wr⟩ (.returned (.tuple #[])) w2) := ⟨rfl, h2, F0.out.trans f2⟩
  clear h2 f2
  go_wp2_with fail
  refine bodyPost_end (results_none rfl _ _ _) rfl ?_
  exact HF.out
set_option maxHeartbeats 2000000 in
theorem do_twobad {K : Nat → Prop} {B rb m wm : Nat} {sn : List (List UInt8 × Vl)} {r : RS} (key : List UInt8) (v : Vl) (w : World) (h : RnS K B rb m wm sn r w) (hn : r.st.length ≤ 800) (c : Int) (hc : c ≠ 1 ∧ c ≠ 2 ∧ c ≠ 3 ∧ c ≠ 4 ∧ c ≠ 13 ∧ c ≠ 14) (a b : Vl) (t : List Vl) (hr : r.st = b :: a :: t) (hz : (twoP c a b).2 ≠ 0) :
    Calls Tryz.prog 45 #[.pointer (some ⟨rb, 0, none⟩), .agg #[.int .i64 c, .string (bs key), .int .i64 v.k, .float .f64 (fb v.x), .string (bs v.s)]] w (fun e w' => e = .panicked (stopI 23) ∧ Fw K B w w') := by
  have HR := Lib.hid h
  have hb0 : Below w.heap.size w (w.alloc (.cells #[.int .i64 c, .string (bs key), .int .i64 v.k, .float .f64 (fb v.x), .string (bs v.s)] 59)) := (Below.refl _ _).alloc (Nat.le_refl _) _
  have HB := Lib.hid (h.new hb0)
  have F0 := Lib.hid (h.fw hb0)
  clear h hb0
  have HT := Lib.hid (two_no c a b t hr (hn := by rw [hr] at hn; simp at hn; omega) hz _ HB.out)
  clear hz
  have g1 : (c == 1) = false := by simp [hc.1]
  have g2 : (c == 2) = false := by simp [hc.2.1]
  have g3 : (c == 3) = false := by simp [hc.2.2.1]
  have g4 : (c == 4) = false := by simp [hc.2.2.2.1]
  have g5 : (c == 13) = false := by simp [hc.2.2.2.2.1]
  have g6 : (c == 14) = false := by simp [hc.2.2.2.2.2]
  go_enter Tryz.func45, Tryz.ntmps45
  go_wp2_with fail
  go_at_call 78
  refine HT.out.mono ?_
  rintro e w2 ⟨rfl, f2⟩
  exact ⟨rfl, rfl, F0.out.trans f2⟩
end Go.Proofs.YtalpbphfmelhhaaGreatDoor

/-! ### A step of the run that writes (prog.run.do: put, drop). -/
namespace Go.Proofs.YtalpbphfmelhhaaGreatDoor
open Go.RowKit Go.Maps Go.Sort
set_option maxRecDepth 100000
attribute [local go_sem] bs_size bs_get bs_toList frombits tobits run_store_float
theorem RnS.wrote {K : Nat → Prop} {B rb m wm : Nat} {sn : List (List UInt8 × Vl)} {r : RS} {w w' : World} (h : RnS K B rb m wm sn r w) (p : List UInt8 × Vl) (ho : w'.ownsMap Tryz.prog 9 RVal wm (r.wr.length + 1) ((mapG valL r.wr).put (.string p.1) (valL p.2))) (hg : w.grownBy w' (some wm)) :
    RnS K B rb m wm sn ⟨r.st, putG p r.wr⟩ w' ∧ Fw K B w w' := by
  obtain ⟨sv, h, hap⟩ := h
  obtain ⟨l1, l2, l3, l4⟩ := h.lt
  obtain ⟨a1, a2, a3⟩ := h.apart
  have hb : Below B w w' := (Below.refl B w).grown hg h.bw (fun k hk => by cases hk; exact h.b2)
  have hk : ∀ k, k < w.heap.size → k ≠ wm → w'.heap[k]? = w.heap[k]? := fun k hk hne => hg.block k hk (fun e => hne (Option.some.inj e))
  rw [mapG_put] at ho
  have ht := ownsMap_tight ho
  rw [mapG_size] at ht
  exact ⟨⟨sv, ⟨(hk rb l1 (Ne.symm a2)).trans h.row, ownsRow_keep h.st fun k e => hk k (l4 k e) (a3 k e).2.2, ownsMap_block h.sn (hk m l2 h.b3), ht, h.srt.put, h.b1, h.b2, h.b3, Nat.le_trans h.bw hb.size⟩,
    hap.1, hap.2.1, hap.2.2.1, fun k e => Nat.lt_of_lt_of_le (hap.2.2.2 k e) hb.size⟩, hb, fun k e => hk k (hap.2.2.2 k e) (fun e' => hap.2.1 (e' ▸ e))⟩
theorem RnS.cell2 {K : Nat → Prop} {B rb m wm : Nat} {sn : List (List UInt8 × Vl)} {r : RS} {w : World} (h : RnS K B rb m wm sn r w) : w.cell? ⟨rb, 2, none⟩ = some (.map (some wm)) := by
  obtain ⟨sv, h, _⟩ := h
  exact h.cells.2.2.1
theorem RnS.wr {K : Nat → Prop} {B rb m wm : Nat} {sn : List (List UInt8 × Vl)} {r : RS} {w : World} (h : RnS K B rb m wm sn r w) : OwnV w wm r.wr := by
  obtain ⟨sv, h, _⟩ := h
  exact h.wr
set_option maxHeartbeats 2000000 in
theorem do_drop {K : Nat → Prop} {B rb m wm : Nat} {sn : List (List UInt8 × Vl)} {r : RS} (key : List UInt8) (v : Vl) (w : World) (h : RnS K B rb m wm sn r w) (hk : key.length ≤ maxLen) (hl : r.wr.length < maxLen) :
    Calls Tryz.prog 45 #[.pointer (some ⟨rb, 0, none⟩), .agg #[.int .i64 3, .string (bs key), .int .i64 v.k, .float .f64 (fb v.x), .string (bs v.s)]] w (OwnP K B rb m wm sn w ⟨r.st, putG (key, Vl.nil) r.wr⟩) := by
  have hb0 : Below w.heap.size w (w.alloc (.cells #[.int .i64 3, .string (bs key), .int .i64 v.k, .float .f64 (fb v.x), .string (bs v.s)] 59)) := (Below.refl _ _).alloc (Nat.le_refl _) _
  have HB := Lib.hid (h.new hb0.drew)
  have F0 := Lib.hid (h.fw hb0.drew)
  have c2 := (h.new hb0).cell2
  have b1 : (w.alloc (.cells #[.int .i64 3, .string (bs key), .int .i64 v.k, .float .f64 (fb v.x), .string (bs v.s)] 59)).cell? ⟨w.heap.size, 1, none⟩ = some (.string (bs key)) := cell_of_row _ w.heap.size 1 _ _ _ (heap_alloc_new w _)
  clear h hb0
  go_enter Tryz.func45, Tryz.ntmps45
  go_wp2_with fail
  refine wp_region_ht 7 (fun W => W.cell? ⟨rb, 2, none⟩ = some (.map (some wm)) ∧ W.cell? ⟨w.heap.size, 1, none⟩ = some (.string (bs key))) (by kernel_rfl) (by kernel_rfl) ?_ (fun hHeld => ?_)
  · exact ⟨c2, b1⟩
  try simp only [Act.put, List.setIfInBounds_toArray, List.set_cons_zero, List.set_cons_succ]
  refine wpHT_takeD (i := 0) (d := 31) (v := ?_) (by kernel_rfl) rfl rfl (by decide) (by kernel_rfl) (by kernel_rfl) (fun _ _ _ h => h) (Or.inl ⟨by kernel_rfl, ?_⟩) (by assumption) ?_
  rotate_left
  · intro w hSw; (try dsimp only at hSw); go_simp; (try with_reducible rfl)
  try simp only [Act.put, List.setIfInBounds_toArray, List.set_cons_zero, List.set_cons_succ]
  refine wpHT_takeD (i := 1) (d := 32) (v := ?_) (by kernel_rfl) rfl rfl (by decide) (by kernel_rfl) (by kernel_rfl) (fun _ _ _ h => h) (Or.inl ⟨by kernel_rfl, ?_⟩) (by assumption) ?_
  rotate_left
  · intro w hSw; (try dsimp only at hSw); go_simp; (try with_reducible rfl)
  try simp only [Act.put, List.setIfInBounds_toArray, List.set_cons_zero, List.set_cons_succ]
  refine wpHT_takeD (i := 2) (d := 33) (v := ?_) (by kernel_rfl) rfl rfl (by decide) (by kernel_rfl) (by kernel_rfl) (fun _ _ _ h => h) (Or.inl ⟨by kernel_rfl, ?_⟩) (by assumption) ?_
  rotate_left
  · intro w hSw; (try dsimp only at hSw); go_simp; (try with_reducible rfl)
  try simp only [Act.put, List.setIfInBounds_toArray, List.set_cons_zero, List.set_cons_succ]
  refine wpHT_takeD (i := 3) (d := 34) (v := ?_) (by kernel_rfl) rfl rfl (by decide) (by kernel_rfl) (by kernel_rfl) (fun _ _ _ h => h) (Or.inl ⟨by kernel_rfl, ?_⟩) (by assumption) ?_
  rotate_left
  · intro w hSw; (try dsimp only at hSw); go_simp; (try with_reducible rfl)
  try simp only [Act.put, List.setIfInBounds_toArray, List.set_cons_zero, List.set_cons_succ]
  refine wpHT_takeD (i := 4) (d := 35) (v := ?_) (by kernel_rfl) rfl rfl (by decide) (by kernel_rfl) (by kernel_rfl) (fun _ _ _ h => h) (Or.inl ⟨by kernel_rfl, ?_⟩) (by assumption) ?_
  rotate_left
  · intro w hSw; (try dsimp only at hSw); go_simp; (try with_reducible rfl)
  try simp only [Act.put, List.setIfInBounds_toArray, List.set_cons_zero, List.set_cons_succ]
  refine wpHT_takeD (i := 5) (d := 36) (v := ?_) (by kernel_rfl) rfl rfl (by decide) (by kernel_rfl) (by kernel_rfl) (fun _ _ _ h => h) (Or.inl ⟨by kernel_rfl, ?_⟩) (by assumption) ?_
  rotate_left
  · intro w hSw; (try dsimp only at hSw); go_simp; (try with_reducible rfl)
  try simp only [Act.put, List.setIfInBounds_toArray, List.set_cons_zero, List.set_cons_succ]
  refine wpHT_takeD (i := 6) (d := 37) (v := ?_) (by kernel_rfl) rfl rfl (by decide) (by kernel_rfl) (by kernel_rfl) (fun _ _ _ h => h) (Or.inl ⟨by kernel_rfl, ?_⟩) (by assumption) ?_
  rotate_left
  · intro w hSw; (try dsimp only at hSw); go_simp; (try with_reducible rfl)
  try simp only [Act.put, List.setIfInBounds_toArray, List.set_cons_zero, List.set_cons_succ]
  refine wpHT_done (by kernel_rfl) ?_
  simp only [List.drop_succ_cons, List.drop_zero]
  clear hHeld
  refine wpList_mapUpdate_own _ rfl _ _ _ 74 rfl 9 48 strKeyed Tryz.underlying74 RVal wm r.wr.length (mapG valL r.wr) rfl HB.out.wr hl _ (VA 0 0 []) (.string key) rfl rfl (keyS key hk) (valL Vl.nil) [] (rval_mk Vl.nil) ?_
  intro w4 hown4 hgrow4
  have hx := HB.out.wrote (key, Vl.nil) hown4 hgrow4
  have HF : Hid (OwnP K B rb m wm sn w ⟨r.st, putG (key, Vl.nil) r.wr⟩ (.returned (.tuple #[])) w4) := ⟨rfl, hx.1, F0.out.trans hx.2⟩
  clear hx hown4 hgrow4
  go_wp2_with fail
  refine bodyPost_end (results_none rfl _ _ _) rfl ?_
  exact HF.out
set_option maxHeartbeats 2000000 in
theorem do_put {K : Nat → Prop} {B rb m wm : Nat} {sn : List (List UInt8 × Vl)} {r : RS} (key : List UInt8) (v : Vl) (w : World) (h : RnS K B rb m wm sn r w) (hn : r.st.length ≤ 800) (hk : key.length ≤ maxLen) (hl : r.wr.length < maxLen) (b : Vl) (t : List Vl) (hr : r.st = b :: t) :
    Calls Tryz.prog 45 #[.pointer (some ⟨rb, 0, none⟩), .agg #[.int .i64 2, .string (bs key), .int .i64 v.k, .float .f64 (fb v.x), .string (bs v.s)]] w (OwnP K B rb m wm sn w ⟨t, putG (key, b) r.wr⟩) := by
  have HA := Lib.hid ((h.addV (.cells #[.int .i64 2, .string (bs key), .int .i64 v.k, .float .f64 (fb v.x), .string (bs v.s)] 59)).new (Below.refl _ _).drew)
  have hb0 : Below w.heap.size w (w.alloc (.cells #[.int .i64 2, .string (bs key), .int .i64 v.k, .float .f64 (fb v.x), .string (bs v.s)] 59)) := (Below.refl _ _).alloc (Nat.le_refl _) _
  have F0 := Lib.hid (h.fw hb0.drew)
  have c2 := (h.new hb0).cell2
  have b1 : (w.alloc (.cells #[.int .i64 2, .string (bs key), .int .i64 v.k, .float .f64 (fb v.x), .string (bs v.s)] 59)).cell? ⟨w.heap.size, 1, none⟩ = some (.string (bs key)) := cell_of_row _ w.heap.size 1 _ _ _ (heap_alloc_new w _)
  clear h hb0
  go_enter Tryz.func45, Tryz.ntmps45
  go_wp2_with fail
  refine wp_region_ht 8 (fun W => W.cell? ⟨rb, 2, none⟩ = some (.map (some wm)) ∧ W.cell? ⟨w.heap.size, 1, none⟩ = some (.string (bs key))) (by kernel_rfl) (by kernel_rfl) ?_ (fun hHeld => ?_)
  · exact ⟨c2, b1⟩
  try simp only [Act.put, List.setIfInBounds_toArray, List.set_cons_zero, List.set_cons_succ]
  refine wpHT_takeD (i := 0) (d := 21) (v := ?_) (by kernel_rfl) rfl rfl (by decide) (by kernel_rfl) (by kernel_rfl) (fun _ _ _ h => h) (Or.inl ⟨by kernel_rfl, ?_⟩) (by assumption) ?_
  rotate_left
  · intro w hSw; (try dsimp only at hSw); go_simp; (try with_reducible rfl)
  try simp only [Act.put, List.setIfInBounds_toArray, List.set_cons_zero, List.set_cons_succ]
  refine wpHT_takeD (i := 1) (d := 22) (v := ?_) (by kernel_rfl) rfl rfl (by decide) (by kernel_rfl) (by kernel_rfl) (fun _ _ _ h => h) (Or.inl ⟨by kernel_rfl, ?_⟩) (by assumption) ?_
  rotate_left
  · intro w hSw; (try dsimp only at hSw); go_simp; (try with_reducible rfl)
  try simp only [Act.put, List.setIfInBounds_toArray, List.set_cons_zero, List.set_cons_succ]
  refine wpHT_takeD (i := 2) (d := 23) (v := ?_) (by kernel_rfl) rfl rfl (by decide) (by kernel_rfl) (by kernel_rfl) (fun _ _ _ h => h) (Or.inl ⟨by kernel_rfl, ?_⟩) (by assumption) ?_
  rotate_left
  · intro w hSw; (try dsimp only at hSw); go_simp; (try with_reducible rfl)
  try simp only [Act.put, List.setIfInBounds_toArray, List.set_cons_zero, List.set_cons_succ]
  refine wpHT_takeD (i := 3) (d := 24) (v := ?_) (by kernel_rfl) rfl rfl (by decide) (by kernel_rfl) (by kernel_rfl) (fun _ _ _ h => h) (Or.inl ⟨by kernel_rfl, ?_⟩) (by assumption) ?_
  rotate_left
  · intro w hSw; (try dsimp only at hSw); go_simp; (try with_reducible rfl)
  try simp only [Act.put, List.setIfInBounds_toArray, List.set_cons_zero, List.set_cons_succ]
  refine wpHT_takeD (i := 4) (d := 25) (v := ?_) (by kernel_rfl) rfl rfl (by decide) (by kernel_rfl) (by kernel_rfl) (fun _ _ _ h => h) (Or.inl ⟨by kernel_rfl, ?_⟩) (by assumption) ?_
  rotate_left
  · intro w hSw; (try dsimp only at hSw); go_simp; (try with_reducible rfl)
  try simp only [Act.put, List.setIfInBounds_toArray, List.set_cons_zero, List.set_cons_succ]
  refine wpHT_takeD (i := 5) (d := 26) (v := ?_) (by kernel_rfl) rfl rfl (by decide) (by kernel_rfl) (by kernel_rfl) (fun _ _ _ h => h) (Or.inl ⟨by kernel_rfl, ?_⟩) (by assumption) ?_
  rotate_left
  · intro w hSw; (try dsimp only at hSw); go_simp; (try with_reducible rfl)
  try simp only [Act.put, List.setIfInBounds_toArray, List.set_cons_zero, List.set_cons_succ]
  refine wpHT_takeD (i := 6) (d := 27) (v := ?_) (by kernel_rfl) rfl rfl (by decide) (by kernel_rfl) (by kernel_rfl) (fun _ _ _ h => h) (Or.inl ⟨by kernel_rfl, ?_⟩) (by assumption) ?_
  rotate_left
  · intro w hSw; (try dsimp only at hSw); go_simp; (try with_reducible rfl)
  try simp only [Act.put, List.setIfInBounds_toArray, List.set_cons_zero, List.set_cons_succ]
  refine wpHT_one (i := 7) (by kernel_rfl) rfl (by decide) (fun K hK => ?_)
  go_simp
  go_at_call 76
  refine (pop_any b t hr _ HA.out (by rw [hr] at hn; simp at hn; omega)).mono ?_
  rintro e w2 ⟨rfl, h2, b2, k2⟩
  have n2 := h2.cell2
  have m1 := k2.cell b1 (.inr rfl)
  have H2 := Lib.hid (h2.less (K' := _) (fun k hk => Or.inl hk))
  have F2 := Lib.hid (F0.out.trans (Fw.less ⟨b2, k2⟩ (fun k hk => Or.inl hk)))
  clear h2 b2 k2
  unfold VA
  refine hK.out _ _ ?_ (fun hHeld => ?_)
  · exact ⟨n2, m1⟩
  clear hK K
  try simp only [Act.put, List.setIfInBounds_toArray, List.set_cons_zero, List.set_cons_succ]
  refine wpHT_done (by kernel_rfl) ?_
  simp only [List.drop_succ_cons, List.drop_zero]
  clear hHeld
  refine wpList_mapUpdate_own _ rfl _ _ _ 74 rfl 9 48 strKeyed Tryz.underlying74 RVal wm r.wr.length (mapG valL r.wr) rfl H2.out.wr hl _ (VA b.k b.x b.s) (.string key) rfl rfl (keyS key hk) (valL b) [] (rval_mk b) ?_
  intro w4 hown4 hgrow4
  have hx := H2.out.wrote (key, b) hown4 hgrow4
  have HF : Hid (OwnP K B rb m wm sn w ⟨t, putG (key, b) r.wr⟩ (.returned (.tuple #[])) w4) := ⟨rfl, hx.1, F2.out.trans hx.2⟩
  clear hx hown4 hgrow4
  go_wp2_with fail
  refine bodyPost_end (results_none rfl _ _ _) rfl ?_
  exact HF.out
end Go.Proofs.YtalpbphfmelhhaaGreatDoor
