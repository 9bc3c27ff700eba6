/-
 The reference's disk: falls.
 Plain laws for the reference's disk: put and drop by places; rows of files cut and joined.
 The reference's disk: put.
 The reference's disk: drop.
 The reference's disk: a place of its row written; what writes come to.
 The reference's disk: Create, Remove, Arm.
-/
import Derived.Test.YtjjcilinghgphaaGreatER
/-! ### The reference's disk: falls. -/
namespace Go.Proofs.YtjjcilinghgphaaGreat
open Go.RowKit Go.Maps Go.Sort
set_option maxRecDepth 100000
attribute [local go_sem] bs_size bs_toList

theorem Rf.scal {w : World} {c : Nat} {S : Nat → Prop} {s : DS} (h : Rf w c S s) {wr' ar' : Int} {dn' : Bool} : ∃ v, w.heap[c]? = some (.cells #[v, .bool s.dn, .int .i64 s.ar, .int .i64 s.wr] 45 (0, 0)) ∧
 ∀ w', Fr (fun k => k = c) w w' → w'.heap[c]? = some (.cells #[v, .bool dn', .int .i64 ar', .int .i64 wr'] 45 (0, 0)) → Rf w' c S ⟨s.fs, wr', ar', dn'⟩ := by
 obtain ⟨v, vs, hc, hl, hr, hS, hv, hlt, hd⟩ := h
 refine ⟨v, hc, fun w' hf hc' => ⟨v, vs, hc', hl, ownsRow_keep hr fun k hk => hf.block k (hlt k (hv k hk).1) (hv k hk).2, hS, hv, fun k hk => Nat.lt_of_lt_of_le (hlt k hk) hf.size, fun i f u hfi hui => ?_⟩⟩
 obtain ⟨ai, ci, e, h8, hb⟩ := hd i f u hfi hui
 exact ⟨ai, ci, e, h8.keep0 hf fun h0 b hb' => (hb h0 b hb').2.1, hb⟩
def FallPost (w : World) (c : Nat) (S : Nat → Prop) (s : DS) (e : Ending) (w' : World) : Prop := e = .returned (.bool (fallS s).2) ∧ Rf w' c S (fallS s).1 ∧ Fr (fun k => k = c) w w'
set_option maxHeartbeats 1000000 in
theorem falls_any (c : Nat) (S : Nat → Prop) (s : DS) (h0 : 0 ≤ s.ar) (h1 : s.ar ≤ 9223372036854775807) (h2 : 0 ≤ s.wr) (h3 : s.wr ≤ 1000000000000) (hdn : s.dn = false) (w : World) (h : Rf w c S s) :
 Calls Tryz.prog 75 #[.pointer (some ⟨c, 0, none⟩)] w (FallPost w c S s) := by
 obtain ⟨a, cap, c0, c1, c2, c3, _⟩ := h.row
 by_cases q0 : 0 < s.ar
 · by_cases q1 : s.ar = 1
   · obtain ⟨v, hc, hk⟩ := h.scal (wr' := s.wr) (ar' := 0) (dn' := true)
     have hf : fallS s = (⟨s.fs, s.wr, 0, true⟩, true) := fall_one q1
     have f1 := frozen_of_row w c 1 _ _ hc
     have f2 := frozen_of_row w c 2 _ _ hc
     have f3 := frozen_of_row w c 3 _ _ hc
     have HK := Lib.hid hk
     have HC := Lib.hid hc
     have HF := Lib.hid hf
     rw [q1] at c2
     clear h hc hk hf q0 h0 h1 h2 h3 hdn
     go_enter Tryz.func75, Tryz.ntmps75
     go_wp2
     go_ret
     refine ⟨by rw [HF.out]; rfl, by rw [HF.out]; exact HK.out _ (((Fr.refl (fun k => k = c) w).setCell (fun _ => rfl) _).setCell (fun _ => rfl) _) (row_set (row_set HC.out rfl) rfl), (((Fr.refl (fun k => k = c) w).setCell (fun _ => rfl) _).setCell (fun _ => rfl) _)⟩
   · obtain ⟨v, hc, hk⟩ := h.scal (wr' := s.wr + 1) (ar' := s.ar - 1) (dn' := s.dn)
     have hf : fallS s = (⟨s.fs, s.wr + 1, s.ar - 1, s.dn⟩, false) := by rw [fall_more q1 hdn, if_pos q0, hdn]
     have f1 := frozen_of_row w c 1 _ _ hc
     have f2 := frozen_of_row w c 2 _ _ hc
     have f3 := frozen_of_row w c 3 _ _ hc
     have HK := Lib.hid hk
     have HC := Lib.hid hc
     have HF := Lib.hid hf
     have e1 : (s.ar - 1 == 0) = false := by simp; omega
     have d0 : decide (0 < s.ar) = true := by simpa using q0
     clear h hc hk hf hdn
     go_enter Tryz.func75, Tryz.ntmps75
     go_wp2
     go_ret
     refine ⟨by rw [HF.out]; rfl, by rw [HF.out]; exact HK.out _ (((Fr.refl (fun k => k = c) w).setCell (fun _ => rfl) _).setCell (fun _ => rfl) _) (row_set (row_set HC.out rfl) rfl), (((Fr.refl (fun k => k = c) w).setCell (fun _ => rfl) _).setCell (fun _ => rfl) _)⟩
 · obtain ⟨v, hc, hk⟩ := h.scal (wr' := s.wr + 1) (ar' := s.ar) (dn' := s.dn)
   have hf : fallS s = (⟨s.fs, s.wr + 1, s.ar, s.dn⟩, false) := by rw [fall_more (by omega) hdn, if_neg q0, hdn]
   have f1 := frozen_of_row w c 1 _ _ hc
   have f2 := frozen_of_row w c 2 _ _ hc
   have f3 := frozen_of_row w c 3 _ _ hc
   have HK := Lib.hid hk
   have HC := Lib.hid hc
   have HF := Lib.hid hf
   have d0 : decide (0 < s.ar) = false := by simpa using q0
   clear h hc hk hf hdn
   go_enter Tryz.func75, Tryz.ntmps75
   go_wp2
   go_ret
   refine ⟨by rw [HF.out]; rfl, by rw [HF.out]; exact HK.out _ ((Fr.refl (fun k => k = c) w).setCell (fun _ => rfl) _) (row_set HC.out rfl), ((Fr.refl (fun k => k = c) w).setCell (fun _ => rfl) _)⟩
end Go.Proofs.YtjjcilinghgphaaGreat

/-! ### Plain laws for the reference's disk: put and drop by places; rows of files cut and joined. -/
namespace Go.Proofs.YtjjcilinghgphaaGreat
open Go.RowKit Go.Maps Go.Sort
set_option maxRecDepth 100000

theorem flatF_append : ∀ (l m : List Fl) (vs us : List Value), vs.length = l.length → flatF (l ++ m) (vs ++ us) = flatF l vs ++ flatF m us
 | [], m, [], us, _ => rfl
 | g :: r, m, v :: vs, us, h => by
  show cellF g v ++ flatF (r ++ m) (vs ++ us) = (cellF g v ++ flatF r vs) ++ flatF m us
  rw [flatF_append r m vs us (by simpa using h), List.append_assoc]
 | [], _, _ :: _, _, h => by simp at h
 | _ :: _, _, [], _, h => by simp at h
theorem flatF_drop : ∀ (l : List Fl) (vs : List Value) (k : Nat), vs.length = l.length → (flatF l vs).drop (k * 3) = flatF (l.drop k) (vs.drop k)
 | _, _, 0, _ => by simp
 | [], [], k + 1, _ => by simp [flatF]
 | g :: r, v :: vs, k + 1, h => by
  show (cellF g v ++ flatF r vs).drop ((k + 1) * 3) = flatF (r.drop k) (vs.drop k)
  rw [← flatF_drop r vs k (by simpa using h), List.drop_append, List.drop_eq_nil_of_le (by simp [cellF]; omega)]
  simp [cellF]
  congr 1; omega
 | [], _ :: _, _ + 1, h => by simp at h
 | _ :: _, [], _ + 1, h => by simp at h
theorem flatF_take : ∀ (l : List Fl) (vs : List Value) (k : Nat), vs.length = l.length → (flatF l vs).take (k * 3) = flatF (l.take k) (vs.take k)
 | _, _, 0, _ => by simp [flatF]
 | [], [], k + 1, _ => by simp [flatF]
 | g :: r, v :: vs, k + 1, h => by
  show (cellF g v ++ flatF r vs).take ((k + 1) * 3) = cellF g v ++ flatF (r.take k) (vs.take k)
  rw [← flatF_take r vs k (by simpa using h), List.take_append, List.take_of_length_le (by simp [cellF]; omega)]
  congr 2
  simp [cellF]; omega
 | [], _ :: _, _ + 1, h => by simp at h
 | _ :: _, [], _ + 1, h => by simp at h
theorem flatF_cells {l : List Fl} {vs : List Value} (hl : vs.length = l.length) {k : Nat} {f : Fl} {u : Value} (hf : l[k]? = some f) (hu : vs[k]? = some u) : ((flatF l vs).drop (k * 3)).take 3 = cellF f u := by
 rw [flatF_drop l vs k hl]
 obtain ⟨h1, e1⟩ := List.getElem?_eq_some_iff.1 hf
 obtain ⟨h2, e2⟩ := List.getElem?_eq_some_iff.1 hu
 rw [List.drop_eq_getElem_cons h1, List.drop_eq_getElem_cons h2, e1, e2]
 simp [flatF, cellF]
/-- put, by places. -/
theorem ins_split (f : Fl) : ∀ (l : List Fl) (k : Nat), (∀ g ∈ l, g.nm ≠ f.nm) → k ≤ l.length → (∀ g ∈ l.take k, bB g.nm f.nm = true) → (∀ g, l[k]? = some g → bB g.nm f.nm = false) → insF f l = l.take k ++ f :: l.drop k
 | [], k, _, hk, _, _ => by
  have : k = 0 := by simpa using hk
  subst this; rfl
 | y :: r, 0, hn, _, _, h => by
  have h1 := h y rfl
  have h2 : bB f.nm y.nm = true := by
   rcases bB_total (hn y (by simp)) with h' | h'
   · rw [h1] at h'; cases h'
   · exact h'
  unfold insF
  rw [if_pos h2]; rfl
 | y :: r, k + 1, hn, hk, ht, h => by
  have h1 := ht y (by simp)
  unfold insF
  rw [if_neg (by rw [bB_asymm h1]; decide), ins_split f r k (fun g hg => hn g (by simp [hg])) (by simpa using hk) (fun g hg => ht g (by simp [hg])) (fun g hg => h g (by simpa using hg))]
  rfl
/-- drop, by places. -/
theorem del_split {l : List Fl} (hs : Srt l) {k : Nat} {f : Fl} (hf : l[k]? = some f) : delF f.nm l = l.take k ++ l.drop (k + 1) := by
 obtain ⟨h1, e1⟩ := List.getElem?_eq_some_iff.1 hf
 have hl : l = l.take k ++ f :: l.drop (k + 1) := by rw [← e1, ← List.drop_eq_getElem_cons h1, List.take_append_drop]
 have hs' := hs
 rw [hl] at hs'
 have p1 := List.pairwise_append.1 hs'
 have p2 := List.pairwise_cons.1 p1.2.1
 conv => lhs; rw [hl]
 unfold delF
 rw [List.filter_append, List.filter_cons_of_neg (by simp), List.filter_eq_self.2, List.filter_eq_self.2]
 · intro g hg
   have := bB_ne (p2.1 g hg)
   simpa using this.symm
 · intro g hg
   have := bB_ne (p1.2.2 g hg f (by simp))
   simpa using this
/-- A list without one place, up to a place. -/
def skp {α : Type} (l : List α) (k n : Nat) : List α := if n ≤ k then l.take n else l.take k ++ (l.drop (k + 1)).take (n - k - 1)
theorem skp_zero {α : Type} (l : List α) (k : Nat) : skp l k 0 = [] := by unfold skp; simp
theorem skp_here {α : Type} (l : List α) (k : Nat) : skp l k (k + 1) = skp l k k := by
 unfold skp
 rw [if_neg (by omega), if_pos (Nat.le_refl _), show k + 1 - k - 1 = 0 by omega]; simp
theorem skp_next {α : Type} {l : List α} {k n : Nat} {x : α} (hx : l[n]? = some x) (hne : n ≠ k) : skp l k (n + 1) = skp l k n ++ [x] := by
 unfold skp
 have hn := (List.getElem?_eq_some_iff.1 hx).1
 rcases Nat.lt_or_ge n k with h | h
 · rw [if_pos (by omega), if_pos (by omega), List.take_add_one, hx]; rfl
 · rw [if_neg (by omega), if_neg (by omega), show n + 1 - k - 1 = (n - k - 1) + 1 by omega, List.take_add_one, List.getElem?_drop, show k + 1 + (n - k - 1) = n by omega, hx, List.append_assoc]; rfl
theorem skp_all {α : Type} {l : List α} {k : Nat} (hk : k < l.length) : skp l k l.length = l.take k ++ l.drop (k + 1) := by
 unfold skp
 rw [if_neg (by omega)]
 congr 1
 exact List.take_of_length_le (by rw [List.length_drop]; omega)
theorem skp_len {α β : Type} {l : List α} {m : List β} (h : l.length = m.length) (k n : Nat) : (skp l k n).length = (skp m k n).length := by
 unfold skp; split <;> simp [h]
/-- What lies at a place of a list without one place. -/
theorem skp_mem {α β : Type} {l : List α} {m : List β} (h : l.length = m.length) {k n i : Nat} {x : α} {y : β} (h1 : (skp l k n)[i]? = some x) (h2 : (skp m k n)[i]? = some y) : ∃ j : Nat, l[j]? = some x ∧ m[j]? = some y := by
 unfold skp at h1 h2
 by_cases hnk : n ≤ k
 · rw [if_pos hnk] at h1 h2
   rw [List.getElem?_take] at h1 h2
   split at h1
   · rename_i hh; rw [if_pos hh] at h2; exact ⟨i, h1, h2⟩
   · cases h1
 · rw [if_neg hnk] at h1 h2
   rcases Nat.lt_or_ge i (l.take k).length with hi | hi
   · rw [List.getElem?_append_left hi] at h1
     rw [List.getElem?_append_left (by simp at hi ⊢; omega)] at h2
     rw [List.getElem?_take] at h1 h2
     split at h1
     · rename_i hh; rw [if_pos hh] at h2; exact ⟨i, h1, h2⟩
     · cases h1
   · rw [List.getElem?_append_right hi] at h1
     rw [List.getElem?_append_right (by simp at hi ⊢; omega)] at h2
     have e : (l.take k).length = (m.take k).length := by simp [h]
     rw [← e] at h2
     rw [List.getElem?_take] at h1 h2
     split at h1
     · rename_i hh; rw [if_pos hh] at h2
       rw [List.getElem?_drop] at h1 h2
       exact ⟨_, h1, h2⟩
     · cases h1
end Go.Proofs.YtjjcilinghgphaaGreat

/-! ### The reference's disk: put. -/
namespace Go.Proofs.YtjjcilinghgphaaGreat
open Go.RowKit Go.Maps Go.Sort
set_option maxRecDepth 100000
attribute [local go_sem] bs_size bs_toList

theorem bl_bB : ∀ a b : List UInt8, Op.bytesLess a b = bB a b
 | [], [] => rfl
 | _ :: _, [] => rfl
 | [], _ :: _ => rfl
 | a :: x, b :: y => by
  have ih := bl_bB x y
  unfold bB at ih ⊢
  rw [Op.bytesLess, bytesBefore, ih]
/-- A list of files of the call's own, wherever its bytes lie. -/
def OwnRow (w : World) (base : Nat) (v : Value) (vs : List Value) (l : List Fl) : Prop := vs.length = l.length ∧ w.ownsRow base 26 3 v l.length (flatF l vs)
theorem OwnRow.nil (w : World) (base : Nat) : OwnRow w base (.slice none 0 0) [] [] := ⟨rfl, World.ownsRow_nil _ _ _ _⟩
theorem fileAt (w : World) (f : Fl) (u : Value) : ∃ W, W = w.alloc (.cells #[.string (bs f.nm), u, .int .i64 (f.sf : Nat)] 26) ∧ Below w.heap.size w W ∧ W.heap.size = w.heap.size + 1 ∧ W.cell? ⟨w.heap.size, 0, none⟩ = some (.string (bs f.nm)) ∧ W.cell? ⟨w.heap.size, 1, none⟩ = some u ∧
 W.cell? ⟨w.heap.size, 2, none⟩ = some (.int .i64 (f.sf : Nat)) := by
 have hg := heap_alloc_new w (.cells #[.string (bs f.nm), u, .int .i64 (f.sf : Nat)] 26)
 exact ⟨_, rfl, (Below.refl _ _).alloc (Nat.le_refl _) _, by simp, cell_of_row _ _ 0 _ _ _ hg, cell_of_row _ _ 1 _ _ _ hg, cell_of_row _ _ 2 _ _ _ hg⟩
theorem OwnRow.snoc {w : World} {base : Nat} {v : Value} {vs : List Value} {l : List Fl} {k : Nat} (hk : k = l.length) (hv : vs.length = l.length) (f : Fl) (u : Value) (h : w.ownsRow base 26 3 v (k + 1) (flatF l vs ++ cellF f u)) : OwnRow w base v (vs ++ [u]) (l ++ [f]) := by
 subst hk
 refine ⟨by simp [hv], ?_⟩
 rw [flatF_snoc _ _ _ _ hv, List.length_append]; exact h
theorem cellF_one (f : Fl) (a : Option Addr) (n c : Nat) : ∀ u ∈ cellF f (.slice a n c), u.oneCell' = true := by
 intro u hu; simp [cellF] at hu; rcases hu with rfl | rfl | rfl <;> rfl
theorem Rd.cellF (w : World) (f : Fl) (a : Option Addr) (n c : Nat) : Rd (w.alloc (.cells #[.string (bs f.nm), .slice a n c, .int .i64 (f.sf : Nat)] 26)) (some ⟨w.heap.size, 0, none⟩) 1 1 3 (cellF f (.slice a n c)) := Rd.litn w (Go.Proofs.YtjjcilinghgphaaGreat.cellF f (.slice a n c)) 1 3 rfl (by decide) 26
/-- What the reference's disk shows, with the values of its row. -/
theorem Rf.rows {w : World} {c : Nat} {S : Nat → Prop} {s : DS} (h : Rf w c S s) : ∃ a cap vs, w.heap[c]? = some (.cells #[.slice a s.fs.length cap, .bool s.dn, .int .i64 s.ar, .int .i64 s.wr] 45 (0, 0)) ∧ vs.length = s.fs.length ∧ w.ownsRow 0 26 3 (.slice a s.fs.length cap) s.fs.length (flatF s.fs vs) ∧
 Rd w a s.fs.length cap 3 (flatF s.fs vs) ∧ RdFs w S a s.fs.length cap s.fs ∧ S c ∧ (∀ b, blk a = some b → S b ∧ b ≠ c) ∧ (∀ k, S k → k < w.heap.size) ∧
 ∀ (i : Nat) (f : Fl) (u : Value), s.fs[i]? = some f → vs[i]? = some u → ∃ ai ci, u = .slice ai f.dt.length ci ∧ Rd8 w ai f.dt.length ci f.dt ∧ BlkIn ai f.dt.length fun b => S b ∧ b ≠ c ∧ blk a ≠ some b := by
 obtain ⟨v, vs, hc, hl, hr, hS, hv, hlt, hd⟩ := h
 obtain ⟨a, cap, rfl, hrd⟩ := Rd.of_own hr
 refine ⟨a, cap, vs, hc, hl, hr, hrd, ⟨rfl, fun _ b hb => (hv b (by rw [ownBlock_sl]; exact hb)).1, vs, hl, hrd, fun i f u hf hu => ?_⟩, hS, fun b hb => hv b (by rw [ownBlock_sl]; exact hb), hlt, fun i f u hf hu => ?_⟩
 · obtain ⟨ai, ci, e, h8, hb⟩ := hd i f u hf hu
   exact ⟨ai, ci, e, h8, fun h0 b hb' => (hb h0 b hb').1⟩
 · obtain ⟨ai, ci, e, h8, hb⟩ := hd i f u hf hu
   exact ⟨ai, ci, e, h8, fun h0 b hb' => by have := hb h0 b hb'; rw [ownBlock_sl] at this; exact this⟩
/-- A new row for the reference's disk. -/
theorem Rf.mk {w w' : World} {c : Nat} {S : Nat → Prop} {s : DS} {v : Value} {us : List Value} (hS : S c) (hlt : ∀ k, S k → k < w.heap.size) (hf : Fr (fun k => k = c) w w') (hc : w'.heap[c]? = some (.cells #[v, .bool s.dn, .int .i64 s.ar, .int .i64 s.wr] 45 (0, 0)))
 (ho : OwnRow w' w.heap.size v us s.fs) (hd : ∀ (i : Nat) (f : Fl) (u : Value), s.fs[i]? = some f → us[i]? = some u → ∃ ai ci, u = .slice ai f.dt.length ci ∧ Rd8 w ai f.dt.length ci f.dt ∧ BlkIn ai f.dt.length fun b => S b ∧ b ≠ c) : Rf w' c (Sx S w w') s := by
 refine ⟨v, us, hc, ho.1, ownsRow_mono ho.2 (Nat.zero_le _), .inl hS, fun k hk => ?_, fun k hk => ?_, fun i f u hfi hui => ?_⟩
 · have := World.ownsRow.lt ho.2 k hk
   exact ⟨.inr this, fun e => by have := hlt c hS; omega⟩
 · rcases hk with hk | hk
   · exact Nat.lt_of_lt_of_le (hlt k hk) hf.size
   · exact hk.2
 · obtain ⟨ai, ci, e, h8, hb⟩ := hd i f u hfi hui
   refine ⟨ai, ci, e, h8.keep0 hf fun h0 b hb' => (hb h0 b hb').2, fun h0 b hb' => ⟨.inl (hb h0 b hb').1, (hb h0 b hb').2, fun e' => ?_⟩⟩
   have := World.ownsRow.lt ho.2 b e'
   have := hlt b (hb h0 b hb').1
   omega
def RPost (w : World) (c : Nat) (S : Nat → Prop) (s : DS) (e : Ending) (w' : World) : Prop := e = .returned (.tuple #[]) ∧ Rf w' c (Sx S w w') s ∧ Fr (fun k => k = c) w w'
theorem bB_take {l : List Fl} {k : Nat} {g : Fl} {n : List UInt8} (h : ∀ x ∈ l.take k, bB x.nm n = true) (hg : l[k]? = some g) (hb : bB g.nm n = true) : ∀ x ∈ l.take (k + 1), bB x.nm n = true := fun x hx => by
 rw [List.take_add_one, hg] at hx
 rcases List.mem_append.1 hx with h1 | h1
 · exact h x h1
 · simp at h1; subst h1; exact hb
theorem take_snocE {α : Type} {l : List α} {k : Nat} {x : α} (h : l[k]? = some x) : l.take (k + 1) = l.take k ++ [x] := by rw [List.take_add_one, h]; rfl
theorem ownsRow_drewN {w : World} {base : Nat} {e : TypeId} {size : Nat} {v : Value} {n : Nat} {xs : List Value} (h : w.ownsRow base e size v n xs) (i : Nat) : (w.drewN i).ownsRow base e size v n xs := ownsRow_keep h fun _ _ => rfl
theorem below_app {base : Nat} {W wr w3 : World} {i : Nat} {o : Obj} {e : TypeId} {size : Nat} {v : Value} {n : Nat} {xs : List Value} (h : Below base W wr) (hb : base ≤ wr.heap.size) (ho : wr.ownsRow base e size v n xs) (hg : ((wr.drewN i).alloc o).grownBy w3 v.ownBlock) : Below base W w3 :=
 (show Below base W (wr.drewN i) from ⟨h.os, h.tape, h.output, h.size, h.block⟩).alloc (show base ≤ (wr.drewN i).heap.size from hb) o |>.grown hg (Nat.le_trans hb (by simp [World.alloc])) (fun q hq => (World.ownsRow.lt ho q hq).1)
theorem rowAt {w : World} {a : Option Addr} {m cap : Nat} {l : List Fl} {vs : List Value} (h : Rd w a m cap 3 (flatF l vs)) (hv : vs.length = l.length) {k : Nat} {g : Fl} {u : Value} (hg : l[k]? = some g) (hu : vs[k]? = some u) :
 ∃ b off, a = some ⟨b, off, none⟩ ∧ w.cell? ⟨b, off + k * 3, none⟩ = some (.string (bs g.nm)) ∧ w.cell? ⟨b, off + k * 3 + 1, none⟩ = some u ∧ w.cell? ⟨b, off + k * 3 + 2, none⟩ = some (.int .i64 (g.sf : Nat)) := by
 obtain ⟨g1, g2, g3⟩ := flatF_get l vs k g u hg hu
 have h0 : 0 < (flatF l vs).length := by have := (List.getElem?_eq_some_iff.1 g1).1; omega
 obtain ⟨b, off, ha, _, hc⟩ := h.at (by rw [← h.2.2.2.1]; exact h0)
 refine ⟨b, off, ha, ?_, ?_, ?_⟩
 · rw [Nat.mul_comm k 3]; exact hc _ _ g1
 · rw [Nat.mul_comm k 3, Nat.add_assoc]; exact hc _ _ g2
 · rw [Nat.mul_comm k 3, Nat.add_assoc]; exact hc _ _ g3
theorem ins_mem {α β : Type} {l : List α} {m : List β} (h : l.length = m.length) {k i : Nat} {x p : α} {y q : β} (h1 : (l.take k ++ x :: l.drop k)[i]? = some p) (h2 : (m.take k ++ y :: m.drop k)[i]? = some q) : (p = x ∧ q = y) ∨ ∃ j : Nat, l[j]? = some p ∧ m[j]? = some q := by
 have e : (l.take k).length = (m.take k).length := by simp [h]
 rcases Nat.lt_or_ge i (l.take k).length with hi | hi
 · rw [List.getElem?_append_left hi, List.getElem?_take] at h1
   rw [List.getElem?_append_left (by omega), List.getElem?_take] at h2
   split at h1
   · rename_i hh; rw [if_pos hh] at h2; exact .inr ⟨i, h1, h2⟩
   · cases h1
 · rw [List.getElem?_append_right hi] at h1
   rw [List.getElem?_append_right (by omega), ← e] at h2
   cases hd : i - (l.take k).length with
   | zero => rw [hd] at h1 h2; simp at h1 h2; exact .inl ⟨h1.symm, h2.symm⟩
   | succ n =>
    rw [hd] at h1 h2
    simp only [List.getElem?_cons_succ, List.getElem?_drop] at h1 h2
    exact .inr ⟨_, h1, h2⟩
theorem put_cells {l : List Fl} {vs : List Value} {k m : Nat} (f : Fl) (u : Value) (hv : vs.length = l.length) (hm : l.length = m) : flatF (l.take k) (vs.take k) ++ (cellF f u ++ ((flatF l vs).drop (k * 3)).take ((m - k) * 3)) = flatF (l.take k ++ f :: l.drop k) (vs.take k ++ u :: vs.drop k) := by
 have e : (flatF (l.drop k) (vs.drop k)).length = (m - k) * 3 := by rw [flatF_length _ _ (by simp [hv])]; simp [hm]
 rw [flatF_append _ _ _ _ (by simp [hv]), flatF_drop l vs k hv, ← e, List.take_length]
 rfl
theorem slices_one {w : World} {S : Nat → Prop} {l : List Fl} {vs : List Value} (hv : vs.length = l.length) (h : ∀ (i : Nat) (f : Fl) (u : Value), l[i]? = some f → vs[i]? = some u → ∃ ai ci, u = .slice ai f.dt.length ci ∧ Rd8 w ai f.dt.length ci f.dt ∧ BlkIn ai f.dt.length S) : ∀ u ∈ flatF l vs, u.oneCell' = true :=
 flatF_one l vs fun v hm => by
  obtain ⟨i, hi⟩ := List.getElem?_of_mem hm
  have hlt := (List.getElem?_eq_some_iff.1 hi).1
  obtain ⟨ai, ci, rfl, _⟩ := h i l[i] v (List.getElem?_eq_getElem (by omega)) hi
  rfl
set_option maxHeartbeats 2000000 in
theorem put_any (c : Nat) (S : Nat → Prop) (s : DS) (f : Fl) (ai : Option Addr) (ci : Nat) (hl : s.fs.length ≤ 100000) (hn : ∀ g ∈ s.fs, g.nm ≠ f.nm) (w : World) (h : Rf w c S s) (h8 : Rd8 w ai f.dt.length ci f.dt) (hb : BlkIn ai f.dt.length fun b => S b ∧ b ≠ c) :
 Calls Tryz.prog 25 #[.pointer (some ⟨c, 0, none⟩), .agg #[.string (bs f.nm), .slice ai f.dt.length ci, .int .i64 (f.sf : Nat)]] w (RPost w c S { s with fs := insF f s.fs }) := by
 obtain ⟨a, cap, vs, hc, hvl, hown, hrd, hrf, hSc, hSa, hlt, hd⟩ := h.rows
 obtain ⟨m, hm⟩ : ∃ m, s.fs.length = m := ⟨_, rfl⟩
 rw [hm] at hrd hl hvl hrf
 obtain ⟨W, hW, hbw, hsz, g0, g1, g2⟩ := fileAt w f (.slice ai f.dt.length ci)
 have hcW : W.heap[c]? = some (.cells #[.slice a m cap, .bool s.dn, .int .i64 s.ar, .int .i64 s.wr] 45 (0, 0)) := by rw [← hm]; exact (hbw.block c (hlt c hSc)).trans hc
 have c0 := cell_of_row W c 0 _ _ _ hcW
 have HM := Lib.hid hm
 have HN := Lib.hid hn
 have HBW := Lib.hid hbw
 have HV := Lib.hid hvl
 have HD := Lib.hid hd
 have HLT := Lib.hid hlt
 have HONE := Lib.hid (slices_one (by rw [hvl, hm]) hd)
 have H8 := Lib.hid h8
 have HB := Lib.hid hb
 have HRD := Lib.hid (hrd.below hbw)
 have HRF := Lib.hid (hrf.below hbw)
 have HSZ := Lib.hid hsz
 have HSC := Lib.hid hSc
 have HG : Hid (∀ W', Below W.heap.size W W' → W'.cell? ⟨w.heap.size, 0, none⟩ = some (.string (bs f.nm)) ∧ W'.cell? ⟨w.heap.size, 1, none⟩ = some (.slice ai f.dt.length ci) ∧ W'.cell? ⟨w.heap.size, 2, none⟩ = some (.int .i64 (f.sf : Nat)) ∧ W'.cell? ⟨c, 0, none⟩ = some (.slice a m cap)) := fun W' hb => ⟨cell_below g0 hb, cell_below g1 hb, cell_below g2 hb, cell_below c0 hb⟩
 have HCW : Hid (∀ W', Below W.heap.size W W' → W'.heap[c]? = some (.cells #[.slice a m cap, .bool s.dn, .int .i64 s.ar, .int .i64 s.wr] 45 (0, 0))) := fun W' hb => (hb.block c (Array.getElem?_eq_some_iff.1 hcW).1).trans hcW
 clear hc hm hn hbw hvl hd hlt h8 hb hrd hrf hSc hSa hown h g0 g1 g2 c0 hcW hsz
 go_enter Tryz.func25, Tryz.ntmps25
 go_wp2
 rw [← hW]
 have HW := Lib.hid hW
 clear hW
 go_loopw [4, 5] (fun v i wr => ∃ (k : Nat), k ≤ m ∧ i = .int .i64 (k : Nat) ∧ Hid (OwnRow wr W.heap.size v (vs.take k) (s.fs.take k)) ∧ Hid (Below W.heap.size W wr) ∧ Hid (∀ g ∈ s.fs.take k, bB g.nm f.nm = true)) (fun _ i _ => m - (intOf i).toNat)
 case atStart => exact ⟨0, Nat.zero_le _, rfl, OwnRow.nil _ _, Below.refl _ _, fun g hg => by simp at hg⟩
 case round =>
  obtain ⟨k, hk, rfl, HO, HBr, HT⟩ := hrel
  obtain ⟨g0, g1, g2, c0⟩ := HG.out wr HBr.out
  have hkl : (s.fs.take k).length = k := by rw [List.length_take, HM.out]; omega
  have hvk : (vs.take k).length = (s.fs.take k).length := HO.out.1
  have how := HO.out.2
  rw [hkl] at how
  have HOW := Lib.hid how
  have HKL := Lib.hid hkl
  have HVK := Lib.hid hvk
  have hbs := HBr.out.size
  clear hkl hvk how
  by_cases hlt : k < m
  · have d1 : decide (k < m) = true := by simpa using hlt
    obtain ⟨g, hg⟩ : ∃ g, s.fs[k]? = some g := ⟨_, List.getElem?_eq_getElem (by have := HM.out; omega)⟩
    obtain ⟨u, hu⟩ : ∃ u, vs[k]? = some u := ⟨_, List.getElem?_eq_getElem (by have := HV.out; omega)⟩
    obtain ⟨aj, cj, rfl, _, _⟩ := HD.out k g u hg hu
    obtain ⟨b, off, rfl, q0, q1, q2⟩ := rowAt (HRD.out.below HBr.out) (by rw [HV.out, HM.out]) hg hu
    have HGK := Lib.hid hg
    have HUK := Lib.hid hu
    clear hg hu
    by_cases hbb : bB g.nm f.nm = true
    · have e1 : Op.bytesLess g.nm f.nm = true := (bl_bB _ _).trans hbb
      have HT2 := Lib.hid (bB_take HT.out HGK.out hbb)
      clear hbb
      go_wp2_with fail
      go_quiet (fail)
      go_wp2_with (at_builtin; refine wpList_app2 SFile rfl _ _ rfl W.heap.size rfl ((ownsRow_drewN HOW.out _).alloc _) rfl (Rd.cellF _ g aj g.dt.length cj) (cellF_one _ _ _ _) (by omega) (by unfold maxLen; omega) (by simp [World.alloc]; omega) ?_)
      intro v3 w3 ho3 hg3 _
      have HO3 := Lib.hid ho3
      have HB3 := Lib.hid (below_app HBr.out hbs HOW.out hg3)
      clear ho3 hg3
      go_wp2
      go_roundw
      case rel => exact ⟨k + 1, by omega, by go_num, by rw [take_snocE HGK.out, take_snocE HUK.out]; exact OwnRow.snoc HKL.out.symm HVK.out g _ HO3.out, HB3.out, HT2.out⟩
      case measure => simp [intOf]; omega
    · have hbb : bB g.nm f.nm = false := by simpa using hbb
      have e1 : Op.bytesLess g.nm f.nm = false := (bl_bB _ _).trans hbb
      have HINS : Hid (insF f s.fs = s.fs.take k ++ f :: s.fs.drop k) := ins_split f s.fs k HN.out (by rw [HM.out]; exact hk) HT.out (fun x hx => by rw [HGK.out] at hx; cases hx; exact hbb)
      clear hbb
      go_wp2_with fail
      go_quiet (fail)
      go_wp2_with (at_builtin; refine wpList_app2 SFile rfl _ _ rfl W.heap.size rfl ((ownsRow_drewN HOW.out _).alloc _) rfl (Rd.cellF _ f ai f.dt.length ci) (cellF_one _ _ _ _) (by omega) (by unfold maxLen; omega) (by simp [World.alloc]; omega) ?_)
      intro v3 w3 ho3 hg3 _
      have HO3 := Lib.hid ho3
      have HB3 := Lib.hid (below_app HBr.out hbs HOW.out hg3)
      clear ho3 hg3 g0 g1 g2 c0
      obtain ⟨g0, g1, g2, c0⟩ := HG.out w3 HB3.out
      obtain ⟨ad, cd, hrun, hrd⟩ := run_slice (P := Tryz.prog) SFile (HRD.out.below (HB3.out)) (some (.int .i64 (k : Nat))) none k m (.inr rfl) (.inl ⟨rfl, rfl⟩) hk (Nat.le_refl _)
      obtain ⟨r, hr⟩ : ∃ r, m - k = r := ⟨_, rfl⟩
      rw [hr] at hrun hrd
      have hr1 : k + r ≤ m := by omega
      have HRS := Lib.hid hrd
      have HRK := Lib.hid hr
      clear hrd hr
      go_wp2_with (at_builtin; refine wpList_app2 SFile rfl _ _ rfl W.heap.size rfl HO3.out rfl HRS.out (fun u hu => HONE.out u (List.mem_of_mem_drop (List.mem_of_mem_take hu))) (by omega) (by unfold maxLen; omega) HB3.out.size ?_)
      intro v4 w4 ho4 hg4 _
      have HO4 := Lib.hid ho4
      have HB4 := Lib.hid (HB3.out.grown hg4 HB3.out.size (fun q hq => (World.ownsRow.lt HO3.out q hq).1))
      clear ho4 hg4 g0 g1 g2 c0
      obtain ⟨a4, cap4, rfl, _⟩ := Rd.of_own HO4.out
      have f0 := frozen_of_row w4 c 0 _ _ (HCW.out w4 HB4.out)
      have c0 := cell_of_row w4 c 0 _ _ _ (HCW.out w4 HB4.out)
      go_wp2
      go_end0
      have hb4 : Below w.heap.size w w4 := HBW.out.trans (HB4.out.mono HBW.out.size)
      have hfr : Fr (fun k => k = c) w (w4.setCell ⟨c, 0, none⟩ (.slice a4 (k + 1 + r) cap4)) := (Fr.of_new (S := fun k => k = c) hb4).setCell (fun _ => rfl) _
      have hvl : vs.length = s.fs.length := by rw [HV.out, HM.out]
      refine ⟨rfl, Rf.mk (us := vs.take k ++ .slice ai f.dt.length ci :: vs.drop k) HSC.out HLT.out hfr (row_set (HCW.out _ HB4.out) rfl) ⟨?_, ?_⟩ (fun i x y hx hy => ?_), hfr⟩
      · show _ = (insF f s.fs).length
        rw [HINS.out]; simp [hvl]
      · have ho := HO4.out
        rw [← HRK.out, put_cells f _ hvl HM.out, HRK.out] at ho
        show (w4.setCell ⟨c, 0, none⟩ (.slice a4 (k + 1 + r) cap4)).ownsRow w.heap.size 26 3 (.slice a4 (k + 1 + r) cap4) (insF f s.fs).length (flatF (insF f s.fs) _)
        rw [HINS.out]
        have hlen : (s.fs.take k ++ f :: s.fs.drop k).length = k + 1 + r := by have := HM.out; have := HRK.out; simp; omega
        rw [hlen]
        refine ownsRow_mono (ownsRow_keep ho fun q hq => Below.heap_setCell w4 ⟨c, 0, none⟩ (.slice a4 (k + 1 + r) cap4) q fun e => ?_) (by have := HSZ.out; omega)
        have h1 := (World.ownsRow.lt ho q hq).1
        have h2 := HLT.out c HSC.out
        have h3 := HSZ.out
        have h4 : q = c := e
        omega
      · have hx : (insF f s.fs)[i]? = some x := hx
        rw [HINS.out] at hx
        rcases ins_mem hvl.symm hx hy with ⟨rfl, rfl⟩ | ⟨j, h1, h2⟩
        · exact ⟨ai, ci, rfl, H8.out, HB.out⟩
        · obtain ⟨aj, cj, e, h8, hb⟩ := HD.out j x y h1 h2
          exact ⟨aj, cj, e, h8, fun h0 b hb' => ⟨(hb h0 b hb').1, (hb h0 b hb').2.1⟩⟩
  · obtain rfl : k = m := by omega
    have HINS : Hid (insF f s.fs = s.fs.take k ++ f :: s.fs.drop k) := ins_split f s.fs k HN.out (by rw [HM.out]; exact hk) HT.out (fun x hx => by have := (List.getElem?_eq_some_iff.1 hx).1; have := HM.out; omega)
    go_wp2_with fail
    go_quiet (fail)
    go_wp2_with (at_builtin; refine wpList_app2 SFile rfl _ _ rfl W.heap.size rfl ((ownsRow_drewN HOW.out _).alloc _) rfl (Rd.cellF _ f ai f.dt.length ci) (cellF_one _ _ _ _) (by omega) (by unfold maxLen; omega) (by simp [World.alloc]; omega) ?_)
    intro v3 w3 ho3 hg3 _
    have HO3 := Lib.hid ho3
    have HB3 := Lib.hid (below_app HBr.out hbs HOW.out hg3)
    clear ho3 hg3 g0 g1 g2 c0
    obtain ⟨g0, g1, g2, c0⟩ := HG.out w3 HB3.out
    obtain ⟨ad, cd, hrun, hrd⟩ := run_slice (P := Tryz.prog) SFile (HRD.out.below (HB3.out)) (some (.int .i64 (k : Nat))) none k k (.inr rfl) (.inl ⟨rfl, rfl⟩) hk (Nat.le_refl _)
    obtain ⟨r, hr⟩ : ∃ r, k - k = r := ⟨_, rfl⟩
    rw [hr] at hrun hrd
    have hr1 : k + r ≤ k := by omega
    have HRS := Lib.hid hrd
    have HRK := Lib.hid hr
    clear hrd hr
    go_wp2_with (at_builtin; refine wpList_app2 SFile rfl _ _ rfl W.heap.size rfl HO3.out rfl HRS.out (fun u hu => HONE.out u (List.mem_of_mem_drop (List.mem_of_mem_take hu))) (by omega) (by unfold maxLen; omega) HB3.out.size ?_)
    intro v4 w4 ho4 hg4 _
    have HO4 := Lib.hid ho4
    have HB4 := Lib.hid (HB3.out.grown hg4 HB3.out.size (fun q hq => (World.ownsRow.lt HO3.out q hq).1))
    clear ho4 hg4 g0 g1 g2 c0
    obtain ⟨a4, cap4, rfl, _⟩ := Rd.of_own HO4.out
    have f0 := frozen_of_row w4 c 0 _ _ (HCW.out w4 HB4.out)
    have c0 := cell_of_row w4 c 0 _ _ _ (HCW.out w4 HB4.out)
    go_wp2
    go_end0
    have hb4 : Below w.heap.size w w4 := HBW.out.trans (HB4.out.mono HBW.out.size)
    have hfr : Fr (fun k => k = c) w (w4.setCell ⟨c, 0, none⟩ (.slice a4 (k + 1 + r) cap4)) := (Fr.of_new (S := fun k => k = c) hb4).setCell (fun _ => rfl) _
    have hvl : vs.length = s.fs.length := by rw [HV.out, HM.out]
    refine ⟨rfl, Rf.mk (us := vs.take k ++ .slice ai f.dt.length ci :: vs.drop k) HSC.out HLT.out hfr (row_set (HCW.out _ HB4.out) rfl) ⟨?_, ?_⟩ (fun i x y hx hy => ?_), hfr⟩
    · show _ = (insF f s.fs).length
      rw [HINS.out]; simp [hvl]
    · have ho := HO4.out
      rw [← HRK.out, put_cells f _ hvl HM.out, HRK.out] at ho
      show (w4.setCell ⟨c, 0, none⟩ (.slice a4 (k + 1 + r) cap4)).ownsRow w.heap.size 26 3 (.slice a4 (k + 1 + r) cap4) (insF f s.fs).length (flatF (insF f s.fs) _)
      rw [HINS.out]
      have hlen : (s.fs.take k ++ f :: s.fs.drop k).length = k + 1 + r := by have := HM.out; have := HRK.out; simp; omega
      rw [hlen]
      refine ownsRow_mono (ownsRow_keep ho fun q hq => Below.heap_setCell w4 ⟨c, 0, none⟩ (.slice a4 (k + 1 + r) cap4) q fun e => ?_) (by have := HSZ.out; omega)
      have h1 := (World.ownsRow.lt ho q hq).1
      have h2 := HLT.out c HSC.out
      have h3 := HSZ.out
      have h4 : q = c := e
      omega
    · have hx : (insF f s.fs)[i]? = some x := hx
      rw [HINS.out] at hx
      rcases ins_mem hvl.symm hx hy with ⟨rfl, rfl⟩ | ⟨j, h1, h2⟩
      · exact ⟨ai, ci, rfl, H8.out, HB.out⟩
      · obtain ⟨aj, cj, e, h8, hb⟩ := HD.out j x y h1 h2
        exact ⟨aj, cj, e, h8, fun h0 b hb' => ⟨(hb h0 b hb').1, (hb h0 b hb').2.1⟩⟩
end Go.Proofs.YtjjcilinghgphaaGreat

/-! ### The reference's disk: drop. -/
namespace Go.Proofs.YtjjcilinghgphaaGreat
open Go.RowKit Go.Maps Go.Sort
set_option maxRecDepth 100000
attribute [local go_sem] bs_size bs_toList

theorem below_app0 {base : Nat} {W wr w3 : World} {o : Obj} {e : TypeId} {size : Nat} {v : Value} {n : Nat} {xs : List Value} (h : Below base W wr) (hb : base ≤ wr.heap.size) (ho : wr.ownsRow base e size v n xs) (hg : (wr.alloc o).grownBy w3 v.ownBlock) : Below base W w3 :=
 h.alloc hb o |>.grown hg (Nat.le_trans hb ((Below.refl 0 wr).alloc (Nat.zero_le _) o).size) (fun q hq => (World.ownsRow.lt ho q hq).1)
theorem skp_le {α : Type} (l : List α) (k n : Nat) : (skp l k n).length ≤ n := by
 unfold skp; split
 · exact List.length_take_le _ _
 · rw [List.length_append]
   have := List.length_take_le k l
   have := List.length_take_le (n - k - 1) (l.drop (k + 1))
   omega
set_option maxHeartbeats 2000000 in
theorem drop_any_ (c : Nat) (S : Nat → Prop) (s : DS) (k : Nat) (hl : s.fs.length ≤ 100000) (hk : k < s.fs.length) (w : World) (h : Rf w c S s) :
 Calls Tryz.prog 97 #[.pointer (some ⟨c, 0, none⟩), .int .i64 (k : Nat)] w (RPost w c S { s with fs := s.fs.take k ++ s.fs.drop (k + 1) }) := by
 obtain ⟨a, cap, vs, hc, hvl, hown, hrd, hrf, hSc, hSa, hlt, hd⟩ := h.rows
 obtain ⟨m, hm⟩ : ∃ m, s.fs.length = m := ⟨_, rfl⟩
 rw [hm] at hrd hl hvl hk
 have c0 := cell_of_row w c 0 _ _ _ hc
 rw [hm] at c0
 have HM := Lib.hid hm
 have HV := Lib.hid hvl
 have HD := Lib.hid hd
 have HLT := Lib.hid hlt
 have HRD := Lib.hid hrd
 have HSC := Lib.hid hSc
 have HG : Hid (∀ W', Below w.heap.size w W' → W'.cell? ⟨c, 0, none⟩ = some (.slice a m cap)) := fun W' hb => cell_below c0 hb
 have HCW : Hid (∀ W', Below w.heap.size w W' → W'.heap[c]? = some (.cells #[.slice a m cap, .bool s.dn, .int .i64 s.ar, .int .i64 s.wr] 45 (0, 0))) := fun W' hb => by rw [← hm]; exact (hb.block c (Array.getElem?_eq_some_iff.1 hc).1).trans hc
 clear hc hm hvl hd hlt hrd hrf hSc hSa hown h c0
 go_enter Tryz.func97, Tryz.ntmps97
 go_wp2
 go_loopw [4, 5] (fun v i wr => ∃ (n : Nat), n ≤ m ∧ i = .int .i64 (n : Nat) ∧ Hid (OwnRow wr w.heap.size v (skp vs k n) (skp s.fs k n)) ∧ Hid (Below w.heap.size w wr)) (fun _ i _ => m - (intOf i).toNat)
 case atStart => exact ⟨0, Nat.zero_le _, rfl, by show OwnRow _ _ _ _ _; rw [skp_zero, skp_zero]; exact OwnRow.nil _ _, Below.refl _ _⟩
 case round =>
  obtain ⟨n, hn, rfl, HO, HBr⟩ := hrel
  have c0 := HG.out wr HBr.out
  have how := HO.out.2
  obtain ⟨q, hq⟩ : ∃ q, (skp s.fs k n).length = q := ⟨_, rfl⟩
  have hqn : q ≤ n := by rw [← hq]; exact skp_le _ _ _
  rw [hq] at how
  have HOW := Lib.hid how
  have HQ := Lib.hid hq
  have hbs := HBr.out.size
  clear hq how
  by_cases hlt : n < m
  · by_cases hne : n = k
    · subst hne
      go_wp2
      go_roundw
      case rel => exact ⟨n + 1, by omega, by go_num, by rw [skp_here, skp_here]; exact HO.out, HBr.out⟩
      case measure => simp [intOf]; omega
    · obtain ⟨g, hg⟩ : ∃ g, s.fs[n]? = some g := ⟨_, List.getElem?_eq_getElem (by have := HM.out; omega)⟩
      obtain ⟨u, hu⟩ : ∃ u, vs[n]? = some u := ⟨_, List.getElem?_eq_getElem (by have := HV.out; omega)⟩
      obtain ⟨aj, cj, rfl, _, _⟩ := HD.out n g u hg hu
      obtain ⟨b, off, rfl, q0, q1, q2⟩ := rowAt (HRD.out.below HBr.out) (by rw [HV.out, HM.out]) hg hu
      have d2 : ((n : Int) != (k : Int)) = true := by simp; omega
      have HGK := Lib.hid (skp_next hg hne)
      have HUK := Lib.hid (skp_next hu hne)
      clear hg hu
      go_wp2_with (at_builtin; refine wpList_app2 SFile rfl _ _ rfl w.heap.size rfl (HOW.out.alloc _) rfl (Rd.cellF _ g aj g.dt.length cj) (cellF_one _ _ _ _) (by omega) (by unfold maxLen; omega) (Nat.le_trans hbs ((Below.refl 0 wr).alloc (Nat.zero_le _) _).size) ?_)
      intro v3 w3 ho3 hg3 _
      have HO3 := Lib.hid ho3
      have HB3 := Lib.hid (below_app0 HBr.out hbs HOW.out hg3)
      clear ho3 hg3
      go_wp2
      go_roundw
      case rel => exact ⟨n + 1, by omega, by go_num, by rw [HGK.out, HUK.out]; exact OwnRow.snoc HQ.out.symm HO.out.1 g _ HO3.out, HB3.out⟩
      case measure => simp [intOf]; omega
  · obtain rfl : n = m := by omega
    have f0 := frozen_of_row wr c 0 _ _ (HCW.out wr HBr.out)
    obtain ⟨a4, cap4, rfl, _⟩ := Rd.of_own HOW.out
    go_wp2
    go_end0
    have hfr : Fr (fun k => k = c) w (wr.setCell ⟨c, 0, none⟩ (.slice a4 q cap4)) := (Fr.of_new (S := fun k => k = c) HBr.out).setCell (fun _ => rfl) _
    have hvl : vs.length = s.fs.length := by rw [HV.out, HM.out]
    have hks : k < s.fs.length := by rw [HM.out]; omega
    have e1 : skp s.fs k n = s.fs.take k ++ s.fs.drop (k + 1) := by rw [← HM.out]; exact skp_all hks
    have hho := HO.out
    refine ⟨rfl, Rf.mk (us := skp vs k n) HSC.out HLT.out hfr (row_set (HCW.out _ HBr.out) rfl) ⟨?_, ?_⟩ (fun i x y hx hy => ?_), hfr⟩
    · show _ = (s.fs.take k ++ s.fs.drop (k + 1)).length
      rw [← e1]; exact hho.1
    · show (wr.setCell ⟨c, 0, none⟩ (.slice a4 q cap4)).ownsRow w.heap.size 26 3 (.slice a4 q cap4) (s.fs.take k ++ s.fs.drop (k + 1)).length (flatF (s.fs.take k ++ s.fs.drop (k + 1)) _)
      rw [← e1]
      refine ownsRow_keep hho.2 fun j hj => Below.heap_setCell wr ⟨c, 0, none⟩ _ j fun e => ?_
      have h1 := (World.ownsRow.lt hho.2 j hj).1
      have h2 := HLT.out c HSC.out
      have h4 : j = c := e
      omega
    · have hx : (s.fs.take k ++ s.fs.drop (k + 1))[i]? = some x := hx
      rw [← e1] at hx
      obtain ⟨j, h1, h2⟩ := skp_mem hvl.symm hx hy
      obtain ⟨aj, cj, e, h8, hb⟩ := HD.out j x y h1 h2
      exact ⟨aj, cj, e, h8, fun h0 b hb' => ⟨(hb h0 b hb').1, (hb h0 b hb').2.1⟩⟩
end Go.Proofs.YtjjcilinghgphaaGreat

/-! ### The reference's disk: a place of its row written; what writes come to. -/
namespace Go.Proofs.YtjjcilinghgphaaGreat
open Go.RowKit Go.Maps Go.Sort
set_option maxRecDepth 100000
attribute [local go_sem] bs_size bs_toList

theorem flatF_set1 (d : List UInt8) (u : Value) : ∀ (l : List Fl) (vs : List Value) (k : Nat) (f : Fl), l[k]? = some f → vs.length = l.length → (flatF l vs).set (k * 3 + 1) u = flatF (l.set k ⟨f.nm, d, f.sf⟩) (vs.set k u)
 | [], _, k, f, h, _ => by simp at h
 | _ :: _, [], k, f, _, h => by simp at h
 | g :: r, v :: vs, 0, f, h, _ => by
  simp at h; subst h
  show (cellF g v ++ flatF r vs).set 1 u = cellF _ u ++ flatF r vs
  simp [cellF]
 | g :: r, v :: vs, k + 1, f, h, hl => by
  have ih := flatF_set1 d u r vs k f (by simpa using h) (by simpa using hl)
  show (cellF g v ++ flatF r vs).set ((k + 1) * 3 + 1) u = cellF g v ++ flatF (r.set k _) (vs.set k u)
  rw [← ih, List.set_append, if_neg (by simp [cellF]; omega)]
  congr 2
  simp [cellF]; omega
theorem flatF_set2 (sf : Nat) : ∀ (l : List Fl) (vs : List Value) (k : Nat) (f : Fl), l[k]? = some f → vs.length = l.length → (flatF l vs).set (k * 3 + 2) (.int .i64 (sf : Nat)) = flatF (l.set k ⟨f.nm, f.dt, sf⟩) vs
 | [], _, k, f, h, _ => by simp at h
 | _ :: _, [], k, f, _, h => by simp at h
 | g :: r, v :: vs, 0, f, h, _ => by
  simp at h; subst h
  show (cellF g v ++ flatF r vs).set 2 _ = cellF _ v ++ flatF r vs
  simp [cellF]
 | g :: r, v :: vs, k + 1, f, h, hl => by
  have ih := flatF_set2 sf r vs k f (by simpa using h) (by simpa using hl)
  show (cellF g v ++ flatF r vs).set ((k + 1) * 3 + 2) _ = cellF g v ++ flatF (r.set k _) vs
  rw [← ih, List.set_append, if_neg (by simp [cellF]; omega)]
  congr 2
  simp [cellF]; omega
theorem upd_set {l : List Fl} (hs : Srt l) {k : Nat} {f : Fl} (hf : l[k]? = some f) (g : Fl → Fl) : updF f.nm g l = l.set k (g f) := by
 obtain ⟨h1, e1⟩ := List.getElem?_eq_some_iff.1 hf
 have hl : l = l.take k ++ f :: l.drop (k + 1) := by rw [← e1, ← List.drop_eq_getElem_cons h1, List.take_append_drop]
 rw [List.set_eq_take_append_cons_drop, if_pos h1]
 conv => lhs; rw [hl]
 rw [upd_mid (by rw [← hl]; exact hs)]
theorem Rf.grow {w : World} {c : Nat} {S S' : Nat → Prop} {s : DS} (h : Rf w c S s) (hs : ∀ q, S q → S' q) (hl : ∀ q, S' q → q < w.heap.size) : Rf w c S' s := by
 obtain ⟨v, vs, hc, hvl, hr, hS, hv, hlt, hd⟩ := h
 refine ⟨v, vs, hc, hvl, hr, hs _ hS, fun k hk => ⟨hs _ (hv k hk).1, (hv k hk).2⟩, hl, fun i f u hf hu => ?_⟩
 obtain ⟨ai, ci, e, h8, hb⟩ := hd i f u hf hu
 exact ⟨ai, ci, e, h8, fun h0 b hb' => ⟨hs _ (hb h0 b hb').1, (hb h0 b hb').2⟩⟩
theorem Rf.lt {w : World} {c : Nat} {S : Nat → Prop} {s : DS} (h : Rf w c S s) : ∀ q, S q → q < w.heap.size := by obtain ⟨_, _, _, _, _, _, _, hlt, _⟩ := h; exact hlt
theorem Rf.in {w : World} {c : Nat} {S : Nat → Prop} {s : DS} (h : Rf w c S s) : S c := by obtain ⟨_, _, _, _, _, hS, _⟩ := h; exact hS
/-- A file of the reference's disk, as it lies. -/
theorem Rf.view {w : World} {c : Nat} {S : Nat → Prop} {s : DS} (h : Rf w c S s) {k : Nat} {f : Fl} (hf : s.fs[k]? = some f) : ∃ b cap aj cj, w.heap[c]? = some (.cells #[.slice (some ⟨b, 0, none⟩) s.fs.length cap, .bool s.dn, .int .i64 s.ar, .int .i64 s.wr] 45 (0, 0)) ∧
 w.cell? ⟨b, k * 3, none⟩ = some (.string (bs f.nm)) ∧ w.cell? ⟨b, k * 3 + 1, none⟩ = some (.slice aj f.dt.length cj) ∧ w.cell? ⟨b, k * 3 + 2, none⟩ = some (.int .i64 (f.sf : Nat)) ∧ w.frozen? ⟨b, k * 3 + 1, none⟩ = false ∧ w.frozen? ⟨b, k * 3 + 2, none⟩ = false ∧
 Rd8 w aj f.dt.length cj f.dt ∧ (BlkIn aj f.dt.length fun q => S q ∧ q ≠ c ∧ q ≠ b) ∧ b ≠ c ∧ S b := by
 obtain ⟨v, vs, hc, hl, hr, hS, hv, hlt, hd⟩ := h
 have hk := (List.getElem?_eq_some_iff.1 hf).1
 obtain ⟨u, hu⟩ : ∃ u, vs[k]? = some u := ⟨_, List.getElem?_eq_getElem (by omega)⟩
 obtain ⟨aj, cj, rfl, h8, hb⟩ := hd k f u hf hu
 obtain ⟨g1, g2, g3⟩ := flatF_get s.fs vs k f _ hf hu
 obtain ⟨h1, h2⟩ := hr
 rcases h2 with ⟨rfl, h2⟩ | ⟨g, cap, cur, rfl, hb0, hg, hnc, hcm, hcs, ht⟩
 · rw [h2] at hk; omega
 · have hcur : ∀ j x, (flatF s.fs vs)[j]? = some x → w.cell? ⟨g, j, none⟩ = some x := fun j x hx => by
    rw [cell_of_row w g j _ _ _ hg]
    rw [← ht, List.getElem?_take] at hx
    split at hx
    · simpa using hx
    · cases hx
   refine ⟨g, cap, aj, cj, hc, ?_, ?_, ?_, frozen_of_row w g _ _ _ hg, frozen_of_row w g _ _ _ hg, h8, fun h0 q hq => ⟨(hb h0 q hq).1, (hb h0 q hq).2.1, fun e => (hb h0 q hq).2.2 (by rw [e]; rfl)⟩, (hv g rfl).2, (hv g rfl).1⟩
   · rw [Nat.mul_comm]; exact hcur _ _ g1
   · rw [Nat.mul_comm]; exact hcur _ _ g2
   · rw [Nat.mul_comm]; exact hcur _ _ g3
/-- A file's bytes written. -/
theorem Rf.setD {w : World} {c : Nat} {S : Nat → Prop} {s : DS} (h : Rf w c S s) {k : Nat} {f : Fl} (hf : s.fs[k]? = some f) {b n cap : Nat} (hb : w.cell? ⟨c, 0, none⟩ = some (.slice (some ⟨b, 0, none⟩) n cap)) {d : List UInt8} {aj : Option Addr} {cj : Nat}
 (h8 : Rd8 w aj d.length cj d) (hbl : BlkIn aj d.length fun q => S q ∧ q ≠ c ∧ q ≠ b) : Rf (w.setCell ⟨b, k * 3 + 1, none⟩ (.slice aj d.length cj)) c S { s with fs := s.fs.set k ⟨f.nm, d, f.sf⟩ } := by
 obtain ⟨v, vs, hc, hl, hr, hS, hv, hlt, hd⟩ := h
 have hk := (List.getElem?_eq_some_iff.1 hf).1
 have hvb : v = .slice (some ⟨b, 0, none⟩) n cap := by
  have := cell_of_row w c 0 _ _ _ hc
  rw [hb] at this; simpa using this.symm
 subst hvb
 have hbc : b ≠ c := (hv b rfl).2
 have fr : Fr (fun q => q = b) w (w.setCell ⟨b, k * 3 + 1, none⟩ (.slice aj d.length cj)) := (Fr.refl (fun q => q = b) w).setCell (fun _ => rfl) _
 refine ⟨_, vs.set k (.slice aj d.length cj), (fr.block c (hlt c hS) (fun e => hbc e.symm)).trans hc, by simpa using hl, ?_, hS, hv, fun q hq => Nat.lt_of_lt_of_le (hlt q hq) fr.size, fun i g u hg hu => ?_⟩
 · obtain ⟨h1, h2⟩ := hr
   rcases h2 with ⟨h2, _⟩ | ⟨g, cap', cur, h2, hb0, hg, hnc, hcm, hcs, ht⟩
   · cases h2
   · simp at h2
     obtain ⟨rfl, rfl, rfl⟩ := h2
     refine ⟨by rw [← flatF_set1 d _ _ _ _ _ hf hl]; simpa using h1, .inr ⟨b, cap, cur.setIfInBounds (k * 3 + 1) (.slice aj d.length cj), by simp, by simp, row_set hg rfl, by simpa using hnc, hcm, by simpa using hcs, ?_⟩⟩
     rw [← flatF_set1 d _ _ _ _ _ hf hl, ← ht]
     show List.take _ _ = _
     rw [Array.toList_setIfInBounds, List.length_set, List.take_set]
 · rw [List.getElem?_set] at hg hu
   by_cases e : k = i
   · rw [if_pos e, if_pos hk] at hg
     rw [if_pos e, if_pos (by omega)] at hu
     cases hg; cases hu
     exact ⟨aj, cj, rfl, h8.keep0 fr fun h0 q hq => (hbl h0 q hq).2.2, fun h0 q hq => ⟨(hbl h0 q hq).1, (hbl h0 q hq).2.1, fun e => (hbl h0 q hq).2.2 (by injection e.symm)⟩⟩
   · rw [if_neg e] at hg hu
     obtain ⟨ai, ci, e', h8', hb'⟩ := hd i g u hg hu
     exact ⟨ai, ci, e', h8'.keep0 fr fun h0 q hq e2 => (hb' h0 q hq).2.2 (by rw [e2]; rfl), hb'⟩
/-- A file's safe bytes told anew. -/
theorem Rf.setS {w : World} {c : Nat} {S : Nat → Prop} {s : DS} (h : Rf w c S s) {k : Nat} {f : Fl} (hf : s.fs[k]? = some f) {b n cap : Nat} (hb : w.cell? ⟨c, 0, none⟩ = some (.slice (some ⟨b, 0, none⟩) n cap)) (sf : Nat) :
 Rf (w.setCell ⟨b, k * 3 + 2, none⟩ (.int .i64 (sf : Nat))) c S { s with fs := s.fs.set k ⟨f.nm, f.dt, sf⟩ } := by
 obtain ⟨v, vs, hc, hl, hr, hS, hv, hlt, hd⟩ := h
 have hk := (List.getElem?_eq_some_iff.1 hf).1
 have hvb : v = .slice (some ⟨b, 0, none⟩) n cap := by
  have := cell_of_row w c 0 _ _ _ hc
  rw [hb] at this; simpa using this.symm
 subst hvb
 have hbc : b ≠ c := (hv b rfl).2
 have fr : Fr (fun q => q = b) w (w.setCell ⟨b, k * 3 + 2, none⟩ (.int .i64 (sf : Nat))) := (Fr.refl (fun q => q = b) w).setCell (fun _ => rfl) _
 refine ⟨_, vs, (fr.block c (hlt c hS) (fun e => hbc e.symm)).trans hc, by simpa using hl, ?_, hS, hv, fun q hq => Nat.lt_of_lt_of_le (hlt q hq) fr.size, fun i g u hg hu => ?_⟩
 · obtain ⟨h1, h2⟩ := hr
   rcases h2 with ⟨h2, _⟩ | ⟨g, cap', cur, h2, hb0, hg, hnc, hcm, hcs, ht⟩
   · cases h2
   · simp at h2
     obtain ⟨rfl, rfl, rfl⟩ := h2
     refine ⟨by rw [← flatF_set2 sf _ _ _ _ hf hl]; simpa using h1, .inr ⟨b, cap, cur.setIfInBounds (k * 3 + 2) (.int .i64 (sf : Nat)), by simp, by simp, row_set hg rfl, by simpa using hnc, hcm, by simpa using hcs, ?_⟩⟩
     rw [← flatF_set2 sf _ _ _ _ hf hl, ← ht]
     show List.take _ _ = _
     rw [Array.toList_setIfInBounds, List.length_set, List.take_set]
 · rw [List.getElem?_set] at hg
   by_cases e : k = i
   · rw [if_pos e, if_pos hk] at hg
     cases hg
     subst e
     obtain ⟨ai, ci, e', h8', hb'⟩ := hd k f u hf hu
     exact ⟨ai, ci, e', h8'.keep0 fr fun h0 q hq e2 => (hb' h0 q hq).2.2 (by rw [e2]; rfl), hb'⟩
   · rw [if_neg e] at hg
     obtain ⟨ai, ci, e', h8', hb'⟩ := hd i g u hg hu
     exact ⟨ai, ci, e', h8'.keep0 fr fun h0 q hq e2 => (hb' h0 q hq).2.2 (by rw [e2]; rfl), hb'⟩

/-! ### what a write comes to -/
theorem errW_dn {s : DS} {e : Int} {g : DS → DS} (h : s.dn = true) : errW s e g = (s, 12) := by unfold errW; rw [h]; rfl
theorem errW_err {s : DS} {e : Int} {g : DS → DS} (h : s.dn = false) (he : e ≠ 0) : errW s e g = (s, e) := by unfold errW; rw [h]; simp [he]
theorem errW_fall {s : DS} {e : Int} {g : DS → DS} (h : s.dn = false) (he : e = 0) (hf : (fallS s).2 = true) : errW s e g = ((fallS s).1, 12) := by unfold errW; rw [h, hf]; simp [he]
theorem errW_ok {s : DS} {e : Int} {g : DS → DS} (h : s.dn = false) (he : e = 0) (hf : (fallS s).2 = false) : errW s e g = (g (fallS s).1, 0) := by unfold errW; rw [h, hf]; simp [he]
/-- The reference's disk behind an operation. -/
def RTold (w : World) (c : Nat) (S : Nat → Prop) (r : DS × Int) (e : Ending) (w' : World) : Prop := e = .returned (.int .i64 r.2) ∧ Rf w' c (Sx S w w') r.1 ∧ Fr S w w'
theorem RTold.same {w w' : World} {c : Nat} {S : Nat → Prop} {s : DS} {r : DS × Int} {e : Ending} (he : e = .returned (.int .i64 r.2)) (h : Rf w' c S s) (hr : r.1 = s) (hf : Fr S w w') (hS : ∀ q, S q → q < w.heap.size) : RTold w c S r e w' :=
 ⟨he, by rw [hr]; exact h.grow (fun q hq => .inl hq) (fun q hq => hq.elim (fun h => Nat.lt_of_lt_of_le (hS q h) hf.size) (fun h => h.2)), hf⟩
/-- One deed behind another. -/
theorem Rf.next {w w1 w2 : World} {c : Nat} {S : Nat → Prop} {s : DS} (h : Rf w2 c (Sx S w1 w2) s) (h1 : Fr S w w1) (h2 : Fr S w1 w2) : Rf w2 c (Sx S w w2) s :=
 h.grow (fun q hq => hq.elim .inl fun h => .inr ⟨Nat.le_trans h1.size h.1, h.2⟩) (fun q hq => by
  rcases hq with hq | hq
  · exact h.lt q (.inl hq)
  · exact hq.2)
theorem Fr.one {S : Nat → Prop} {w w' : World} {c : Nat} (h : Fr (fun k => k = c) w w') (hc : S c) : Fr S w w' := h.mono fun _ _ e => by rw [e]; exact hc
end Go.Proofs.YtjjcilinghgphaaGreat

/-! ### The reference's disk: Create, Remove, Arm. -/
namespace Go.Proofs.YtjjcilinghgphaaGreat
open Go.RowKit Go.Maps Go.Sort
set_option maxRecDepth 100000
attribute [local go_sem] bs_size bs_toList

theorem atI_some {n : List UInt8} {l : List Fl} (h : (getF n l).isSome = true) : ∃ f k, getF n l = some f ∧ l[k]? = some f ∧ k < l.length ∧ atI n l = (k : Nat) := by
 rcases atI_get (n := n) (l := l) with h' | ⟨h', _⟩
 · exact h'
 · rw [h'] at h; cases h
theorem atI_none {n : List UInt8} {l : List Fl} (h : getF n l = none) : atI n l = -1 := by
 rcases atI_get (n := n) (l := l) with ⟨f, k, h', _⟩ | ⟨_, h'⟩
 · rw [h'] at h; cases h
 · exact h'
/-- What 'falls' tells, at a world. -/
theorem falls_out {B : Int} (hB : B ≤ 1000000000000) {c : Nat} {S : Nat → Prop} {s : DS} (hok : DOk B s) (hdn : s.dn = false) {w : World} (h : Rf w c S s) {fb : Bool} (hfb : (fallS s).2 = fb) {s1 : DS} (hs1 : (fallS s).1 = s1) :
 Calls Tryz.prog 75 #[.pointer (some ⟨c, 0, none⟩)] w fun e w' => e = .returned (.bool fb) ∧ Rf w' c S s1 ∧ Fr (fun k => k = c) w w' := by
 have := falls_any c S s hok.ar0 hok.ar1 hok.wr0 (Int.le_trans hok.wr1 hB) hdn w h
 unfold FallPost at this
 rw [hfb, hs1] at this
 exact this
set_option maxHeartbeats 2000000 in
theorem rcreate_any (c : Nat) (S : Nat → Prop) (B : Int) (hB : B ≤ 1000000000000) (s : DS) (n : List UInt8) (hn : n.length ≤ 9223372036854775807) (hok : DOk B s) (w : World) (h : Rf w c S s) :
 Calls Tryz.prog 40 #[.pointer (some ⟨c, 0, none⟩), .string (bs n)] w (RTold w c S (createS s n)) := by
 have HS := Lib.hid h.lt
 have HIN := Lib.hid h.in
 have HRF := Lib.hid h
 have hlen := hok.len
 have HAT := Lib.hid (at_any c S s n hok.len w h)
 have HNM := Lib.hid (rname_any n hn w)
 obtain ⟨a, cap, c0, c1, c2, c3, hr⟩ := h.row
 cases hdn : s.dn with
 | true =>
  rw [hdn] at c1
  have hres : Hid (createS s n = (s, 12)) := errW_dn hdn
  clear hr hdn h
  go_enter Tryz.func40, Tryz.ntmps40
  go_wp2
  go_ret
  exact RTold.same (by rw [hres.out]; rfl) HRF.out (by rw [hres.out]) (Fr.refl _ _) HS.out
 | false =>
  rw [hdn] at c1
  cases hnm : nameOk n with
  | false =>
   have hres : Hid (createS s n = (s, 10)) := by
    have : creE s n = 10 := by unfold creE; rw [hnm]; rfl
    unfold createS; rw [this]; exact errW_err hdn (by decide)
   rw [hnm] at HNM
   clear hr hdn h hnm
   go_enter Tryz.func40, Tryz.ntmps40
   go_wp2_with (go_at_call 23; ((with_reducible refine (HNM.out).mono ?_); rintro e w1 ⟨rfl, rfl⟩))
   go_ret
   exact RTold.same (by rw [hres.out]; rfl) HRF.out (by rw [hres.out]) (Fr.refl _ _) HS.out
  | true =>
   rw [hnm] at HNM
   cases hg : (getF n s.fs).isSome with
   | true =>
    have hres : Hid (createS s n = (s, 9)) := by
     have : creE s n = 9 := by unfold creE; rw [hnm, hg]; rfl
     unfold createS; rw [this]; exact errW_err hdn (by decide)
    obtain ⟨f, k, _, _, hk, hat⟩ := atI_some hg
    rw [hat] at HAT
    clear hr hdn h hnm hg hat
    go_enter Tryz.func40, Tryz.ntmps40
    go_wp2_with (first | (go_at_call 23; ((with_reducible refine (HNM.out).mono ?_); rintro e w1 ⟨rfl, rfl⟩)) | (go_at_call 24; ((with_reducible refine (HAT.out).mono ?_); rintro e w1 ⟨rfl, rfl⟩)))
    go_ret
    exact RTold.same (by rw [hres.out]; rfl) HRF.out (by rw [hres.out]) (Fr.refl _ _) HS.out
   | false =>
    have hgn : getF n s.fs = none := by simpa using hg
    rw [atI_none hgn] at HAT
    by_cases h64 : 64 ≤ s.fs.length
    · have hres : Hid (createS s n = (s, 3)) := by
       have : creE s n = 3 := by unfold creE; rw [hnm, hg]; simp [h64]
       unfold createS; rw [this]; exact errW_err hdn (by decide)
      obtain ⟨m, hm⟩ : ∃ m, s.fs.length = m := ⟨_, rfl⟩
      rw [hm] at c0 hlen h64
      clear hr hdn h hnm hg hgn hm
      go_enter Tryz.func40, Tryz.ntmps40
      go_wp2_with (first | (go_at_call 23; ((with_reducible refine (HNM.out).mono ?_); rintro e w1 ⟨rfl, rfl⟩)) | (go_at_call 24; ((with_reducible refine (HAT.out).mono ?_); rintro e w1 ⟨rfl, rfl⟩)))
      go_ret
      exact RTold.same (by rw [hres.out]; rfl) HRF.out (by rw [hres.out]) (Fr.refl _ _) HS.out
    · have he : creE s n = 0 := by unfold creE; rw [hnm, hg]; simp; omega
      obtain ⟨s1, hs1⟩ : ∃ s1, (fallS s).1 = s1 := ⟨_, rfl⟩
      have hfs1 : s1.fs = s.fs := by rw [← hs1]; exact fallS_fs s
      cases hfb : (fallS s).2 with
      | true =>
       have HFA := Lib.hid (falls_out hB hok hdn h hfb hs1)
       have hres : Hid (createS s n = (s1, 12)) := by unfold createS; rw [he, ← hs1]; exact errW_fall hdn rfl hfb
       obtain ⟨m, hm⟩ : ∃ m, s.fs.length = m := ⟨_, rfl⟩
       rw [hm] at c0 hlen h64
       clear hr hdn h hnm hg hgn hm hfb hs1 hfs1 he
       go_enter Tryz.func40, Tryz.ntmps40
       go_wp2_with (first | (go_at_call 23; ((with_reducible refine (HNM.out).mono ?_); rintro e w1 ⟨rfl, rfl⟩)) | (go_at_call 24; ((with_reducible refine (HAT.out).mono ?_); rintro e w1 ⟨rfl, rfl⟩)) | (go_at_call 75; ((with_reducible refine (HFA.out).mono ?_); rintro e w1 ⟨rfl, hr1, hf1⟩; have HR1 := Lib.hid hr1; have HF1 := Lib.hid hf1; clear hr1 hf1)))
       go_ret
       exact RTold.same (by rw [hres.out]; rfl) HR1.out (by rw [hres.out]) (HF1.out.one HIN.out) HS.out
      | false =>
       have HFA := Lib.hid (falls_out hB hok hdn h hfb hs1)
       have hres : Hid (createS s n = ({ s1 with fs := insF ⟨n, [], 0⟩ s1.fs }, 0)) := by unfold createS; rw [he, ← hs1]; exact errW_ok hdn rfl hfb
       have HP : Hid (∀ W, Rf W c S s1 → Calls Tryz.prog 25 #[.pointer (some ⟨c, 0, none⟩), .agg #[.string (bs n), .slice none 0 0, .int .i64 0]] W (RPost W c S { s1 with fs := insF ⟨n, [], 0⟩ s1.fs })) := fun W hW =>
        put_any c S s1 ⟨n, [], 0⟩ none 0 (by rw [hfs1]; omega) (by rw [hfs1]; exact getF_none hgn) W hW ⟨rfl, Rd.nil _ _⟩ (fun h0 => by simp at h0)
       obtain ⟨m, hm⟩ : ∃ m, s.fs.length = m := ⟨_, rfl⟩
       rw [hm] at c0 hlen h64
       clear hr hdn h hnm hg hgn hm hfb hs1 hfs1 he
       go_enter Tryz.func40, Tryz.ntmps40
       go_wp2_with (first | (go_at_call 23; ((with_reducible refine (HNM.out).mono ?_); rintro e w1 ⟨rfl, rfl⟩)) | (go_at_call 24; ((with_reducible refine (HAT.out).mono ?_); rintro e w1 ⟨rfl, rfl⟩)) | (go_at_call 75; ((with_reducible refine (HFA.out).mono ?_); rintro e w1 ⟨rfl, hr1, hf1⟩; have HR1 := Lib.hid hr1; have HF1 := Lib.hid hf1; clear hr1 hf1)) | (go_at_call 25; ((with_reducible refine (HP.out _ HR1.out).mono ?_); rintro e w2 ⟨rfl, hr2, hf2⟩; have HR2 := Lib.hid hr2; have HF2 := Lib.hid hf2; clear hr2 hf2)))
       go_ret
       exact ⟨by rw [hres.out]; rfl, by rw [hres.out]; exact HR2.out.next (HF1.out.one HIN.out) (HF2.out.one HIN.out), (HF1.out.one HIN.out).trans (HF2.out.one HIN.out)⟩
/-- A new disk of the reference's. -/
theorem Rf.start (w : World) : Rf (w.alloc (.cells #[.slice none 0 0, .bool false, .int .i64 0, .int .i64 0] 45)) w.heap.size (fun q => q = w.heap.size) newS := by
 refine ⟨.slice none 0 0, [], heap_alloc_new w _, rfl, World.ownsRow_nil _ _ _ _, rfl, fun k hk => (by simp [Value.ownBlock] at hk), fun k hk => (by subst hk; exact (Array.getElem?_eq_some_iff.1 (heap_alloc_new w _)).1), fun i f u h => (by simp [newS] at h)⟩
end Go.Proofs.YtjjcilinghgphaaGreat
