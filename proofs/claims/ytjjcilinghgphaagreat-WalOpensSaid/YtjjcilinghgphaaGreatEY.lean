/-
 The laws' operations in memory; Does. Written by a program (e15gen.py).
 The laws' Few and first.
 The chapter's examples (first). Written by a program (e17gen.py).
 A disk within a law; DiskSynced.
 The walk of DiskSynced.
-/
import Derived.Test.YtjjcilinghgphaaGreatE14
import Derived.Lib.SlBytesConst
/-! ### The laws' operations in memory; Does. Written by a program (e15gen.py). -/
namespace Go.Proofs.YtjjcilinghgphaaGreat
open Go.RowKit Go.Maps Go.Sort
set_option maxRecDepth 100000
attribute [local go_sem] bs_size bs_toList

/-- What is done. -/
structure OpV where
 k : Int
 n : Int
 nm : List UInt8
 tn : List UInt8
 b : List UInt8
 p : List Int
def doesS (s : DS) (o : OpV) : DS × Int :=
 if o.k = 1 then createS s o.nm else if o.k = 2 then appendS s o.nm o.b else if o.k = 3 then syncS s o.nm else if o.k = 4 then cutS s o.nm o.n else if o.k = 5 then renameS s o.nm o.tn else if o.k = 6 then removeS s o.nm else
 if o.k = 7 then (armS s o.n, 0) else if o.k = 8 then (crashS s o.p, 0) else if o.k = 9 then (s, hasE s o.nm) else (s, 0)
def OpWf (o : OpV) : Prop := (-9223372036854775808 ≤ o.k ∧ o.k ≤ 9223372036854775807) ∧ (-9223372036854775808 ≤ o.n ∧ o.n ≤ 9223372036854775807) ∧ o.nm.length ≤ 9223372036854775807 ∧ o.tn.length ≤ 9223372036854775807
def opCells (o : OpV) (ab : Option Addr) (cb : Nat) (ap : Option Addr) (cp : Nat) : List Value := [.int .i64 o.k, .int .i64 o.n, .string (bs o.nm), .string (bs o.tn), .slice ab o.b.length cb, .slice ap o.p.length cp]
/-- An operation that reads. -/
def OpRd (w : World) (T : Nat → Prop) (o : OpV) (ab : Option Addr) (cb : Nat) (ap : Option Addr) (cp : Nat) : Prop :=
 OpWf o ∧ Rd8 w ab o.b.length cb o.b ∧ RdI w ap o.p.length cp o.p ∧ BlkIn ab o.b.length T ∧ BlkIn ap o.p.length T
theorem OpRd.keep {S T : Nat → Prop} {w w' : World} {o : OpV} {ab : Option Addr} {cb : Nat} {ap : Option Addr} {cp : Nat} (h : OpRd w T o ab cb ap cp) (hf : Fr S w w') (hn : ∀ b, T b → ¬ S b) : OpRd w' T o ab cb ap cp :=
 ⟨h.1, h.2.1.keep0 hf fun h0 b hb => hn b (h.2.2.2.1 h0 b hb), h.2.2.1.keep hf fun h0 b hb => hn b (h.2.2.2.2 h0 b hb), h.2.2.2⟩
theorem OpRd.below {T : Nat → Prop} {w w' : World} {o : OpV} {ab : Option Addr} {cb : Nat} {ap : Option Addr} {cp : Nat} (h : OpRd w T o ab cb ap cp) (hb : Below w.heap.size w w') : OpRd w' T o ab cb ap cp :=
 ⟨h.1, h.2.1.below hb, h.2.2.1.below hb, h.2.2.2⟩
/-- A list of operations that reads. -/
def RdOps (w : World) (T : Nat → Prop) (a : Option Addr) (n cap : Nat) (os : List OpV) : Prop :=
 n = os.length ∧ BlkIn a n T ∧ ∃ xs, Rd w a n cap 6 xs ∧ ∀ (i : Nat) (o : OpV), os[i]? = some o → ∃ ab cb ap cp, (∀ (j : Nat) (u : Value), (opCells o ab cb ap cp)[j]? = some u → xs[i * 6 + j]? = some u) ∧ OpRd w T o ab cb ap cp
theorem RdOps.keep {S T : Nat → Prop} {w w' : World} {a : Option Addr} {n cap : Nat} {os : List OpV} (h : RdOps w T a n cap os) (hf : Fr S w w') (hn : ∀ b, T b → ¬ S b) : RdOps w' T a n cap os := by
 obtain ⟨h1, h2, xs, h3, h4⟩ := h
 refine ⟨h1, h2, xs, h3.keep0 hf fun h0 b hb => hn b (h2 h0 b hb), fun i o ho => ?_⟩
 obtain ⟨ab, cb, ap, cp, hc, hr⟩ := h4 i o ho
 exact ⟨ab, cb, ap, cp, hc, hr.keep hf hn⟩
theorem RdOps.below {T : Nat → Prop} {w w' : World} {a : Option Addr} {n cap : Nat} {os : List OpV} (h : RdOps w T a n cap os) (hb : Below w.heap.size w w') : RdOps w' T a n cap os := by
 obtain ⟨h1, h2, xs, h3, h4⟩ := h
 refine ⟨h1, h2, xs, h3.below hb, fun i o ho => ?_⟩
 obtain ⟨ab, cb, ap, cp, hc, hr⟩ := h4 i o ho
 exact ⟨ab, cb, ap, cp, hc, hr.below hb⟩
theorem RdOps.at {w : World} {T : Nat → Prop} {a : Option Addr} {n cap : Nat} {os : List OpV} (h : RdOps w T a n cap os) {k : Nat} {o : OpV} (ho : os[k]? = some o) :
 ∃ b off ab cb ap cp, a = some ⟨b, off, none⟩ ∧ OpRd w T o ab cb ap cp ∧ w.cell? ⟨b, off + k * 6, none⟩ = some (.int .i64 o.k) ∧ w.cell? ⟨b, off + k * 6 + 1, none⟩ = some (.int .i64 o.n) ∧ w.cell? ⟨b, off + k * 6 + 2, none⟩ = some (.string (bs o.nm)) ∧
  w.cell? ⟨b, off + k * 6 + 3, none⟩ = some (.string (bs o.tn)) ∧ w.cell? ⟨b, off + k * 6 + 4, none⟩ = some (.slice ab o.b.length cb) ∧ w.cell? ⟨b, off + k * 6 + 5, none⟩ = some (.slice ap o.p.length cp) := by
 obtain ⟨rfl, h2, xs, h3, h4⟩ := h
 have hk : k < os.length := (List.getElem?_eq_some_iff.1 ho).1
 obtain ⟨ab, cb, ap, cp, hc, hr⟩ := h4 k o ho
 obtain ⟨b, off, rfl, _, hcell⟩ := h3.at (by omega)
 refine ⟨b, off, ab, cb, ap, cp, rfl, hr, hcell _ _ (hc 0 _ rfl), ?_, ?_, ?_, ?_, ?_⟩
 · rw [Nat.add_assoc]; exact hcell _ _ (hc 1 _ rfl)
 · rw [Nat.add_assoc]; exact hcell _ _ (hc 2 _ rfl)
 · rw [Nat.add_assoc]; exact hcell _ _ (hc 3 _ rfl)
 · rw [Nat.add_assoc]; exact hcell _ _ (hc 4 _ rfl)
 · rw [Nat.add_assoc]; exact hcell _ _ (hc 5 _ rfl)

/-! ### bytes that are written over -/
/-- n bytes that may be written. -/
def WrB (w : World) (a : Option Addr) (n : Nat) : Prop := n = 0 ∨ ∃ r cur, a = some ⟨r, 0, none⟩ ∧ w.heap[r]? = some (.cells cur 5 (0, 0)) ∧ n ≤ cur.size
theorem WrB.of_own {w : World} {base : Nat} {a : Option Addr} {n cap : Nat} {l : List UInt8} (h : Own8 w base 5 (.slice a n cap) l) (hn : n = l.length) : WrB w a n := by
 rcases h.2 with ⟨h1, h2⟩ | ⟨g, cap', cur, hv, hb, hg, hnc, hcm, hcs, ht⟩
 · exact .inl (by rw [hn, h2])
 · simp at hv
   obtain ⟨rfl, _, rfl⟩ := hv
   exact .inr ⟨g, cur, rfl, hg, by omega⟩
theorem WrB.keep {S : Nat → Prop} {w w' : World} {a : Option Addr} {n : Nat} (h : WrB w a n) (hf : Fr S w w') (hn : ∀ b, blk a = some b → ¬ S b) : WrB w' a n := by
 rcases h with h | ⟨r, cur, rfl, hg, hc⟩
 · exact .inl h
 · exact .inr ⟨r, cur, rfl, (hf.block r (Array.getElem?_eq_some_iff.1 hg).1 (hn r rfl)).trans hg, hc⟩
theorem WrB.at {w : World} {a : Option Addr} {n k : Nat} (h : WrB w a n) (hk : k < n) : ∃ r u, a = some ⟨r, 0, none⟩ ∧ w.cell? ⟨r, k, none⟩ = some u ∧ w.frozen? ⟨r, k, none⟩ = false ∧ ∀ v, WrB (w.setCell ⟨r, k, none⟩ v) a n := by
 rcases h with h | ⟨r, cur, rfl, hg, hc⟩
 · omega
 · have hu : cur[k]? = some cur[k] := Array.getElem?_eq_getElem (by omega)
   refine ⟨r, cur[k], rfl, by rw [cell_of_row w r k _ _ _ hg]; exact hu, frozen_of_row w r k _ _ hg, fun v => .inr ⟨r, cur.setIfInBounds k v, rfl, row_set hg rfl, by simpa using hc⟩⟩

/-- A disk behind a deed and behind writes to a block beside it. -/
theorem Done.beside {B : Int} {w w1 w2 w3 : World} {d : Nat} {S R : Nat → Prop} {s : DS} (h01 : Below w.heap.size w w1) (h : Done B w1 d S s w2) (hf : Fr R w2 w3) (hS : ∀ k, S k → k < w.heap.size) (hR : ∀ k, R k → w.heap.size ≤ k ∧ k < w1.heap.size) : Done B w d S s w3 := by
 obtain ⟨h1, h2⟩ := h
 have e1 := h01.size
 have e2 := h2.size
 have e3 := hf.size
 refine ⟨(h1.keep hf fun k hk hr => ?_).mono (Int.le_refl _) (fun k hk => ?_) (fun k hk => ?_), ?_⟩
 · have := hR k hr
   rcases hk with hk | hk
   · have := hS k hk; omega
   · omega
 · rcases hk with hk | hk
   · exact .inl hk
   · exact .inr ⟨by omega, by omega⟩
 · rcases hk with hk | hk
   · have := hS k hk; omega
   · exact hk.2
 · have a1 : Fr S w w2 := (Fr.of_new h01).trans h2
   exact a1.trans' hf (fun _ _ h => h) (fun k hk h => by have := (hR k h).1; omega)
abbrev opV (o : OpV) (ab : Option Addr) (cb : Nat) (ap : Option Addr) (cp : Nat) : Value := .agg #[.int .i64 o.k, .int .i64 o.n, .string (bs o.nm), .string (bs o.tn), .slice ab o.b.length cb, .slice ap o.p.length cp]

end Go.Proofs.YtjjcilinghgphaaGreat

/-! ### The laws' Few and first. -/
namespace Go.Proofs.YtjjcilinghgphaaGreat
open Go.RowKit Go.Maps Go.Sort
set_option maxRecDepth 100000
attribute [local go_sem] bs_size bs_toList

def wgt (o : OpV) : Nat := min o.nm.length 20001 + min o.tn.length 20001 + min o.b.length 20001
def wsum (os : List OpV) : Nat := (os.map wgt).sum
theorem wgt_le (o : OpV) : wgt o ≤ 60003 := by unfold wgt; omega
theorem wsum_le (os : List OpV) : wsum os ≤ os.length * 60003 := by
 induction os with
 | nil => simp [wsum]
 | cons o r ih => have := wgt_le o; simp only [wsum, List.map_cons, List.sum_cons, List.length_cons] at ih ⊢; omega
theorem wsum_snoc {os : List OpV} {k : Nat} {o : OpV} (h : os[k]? = some o) : wsum (os.take (k + 1)) = wsum (os.take k) + wgt o := by
 rw [List.take_add_one, h]; simp [wsum]
theorem wgt_mem {os : List OpV} {o : OpV} (h : o ∈ os) : wgt o ≤ wsum os := by
 induction os with
 | nil => cases h
 | cons y r ih =>
  simp only [wsum, List.map_cons, List.sum_cons] at ih ⊢
  rcases List.mem_cons.1 h with rfl | h
  · omega
  · have := ih h; omega
/-- Operations few and small. -/
def FewOk (os : List OpV) : Prop := os.length ≤ 300 ∧ wsum os ≤ 20000
theorem FewOk.each {os : List OpV} (h : FewOk os) {o : OpV} (ho : o ∈ os) : o.nm.length ≤ 20000 ∧ o.tn.length ≤ 20000 ∧ o.b.length ≤ 20000 := by
 have h1 := wgt_mem ho
 have h2 := h.2
 unfold wgt at h1
 omega
def FewPost (w : World) (os : List OpV) (e : Ending) (w' : World) : Prop := ∃ b : Bool, e = .returned (.bool b) ∧ (b = true → FewOk os) ∧ Below w.heap.size w w'
/-! ### the chapter's examples -/
def ex1 : DS := (createS newS [97]).1
def ex2 : DS := (createS ex1 [97]).1
def ex3 : DS := (appendS ex2 [98] []).1
def ex4 : DS := (appendS ex3 [97] [49, 50]).1
def ex5 : DS := (syncS ex4 [97]).1
def ex6 : DS := (appendS ex5 [97] [51, 52, 53]).1
def ex7 : DS := crashS ex6 [2]
theorem ex_a : (createS newS [97]).2 = 0 := by decide +kernel
theorem ex_b : (createS ex1 [97]).2 = 9 := by decide +kernel
theorem ex_c : (appendS ex2 [98] []).2 = 8 := by decide +kernel
theorem ex_e : (appendS ex3 [97] [49, 50]).2 = 0 := by decide +kernel
theorem ex_f : (syncS ex4 [97]).2 = 0 := by decide +kernel
theorem ex_g : (appendS ex5 [97] [51, 52, 53]).2 = 0 := by decide +kernel
theorem ex_h : hasE ex7 [97] = 0 := by decide +kernel
theorem ex_x : ((getF [97] ex7.fs).map Fl.dt).getD [] = [49, 50, 51, 52] := by decide +kernel
theorem ex_w : ex7.wr = 4 := by decide +kernel
theorem Told.at {B : Int} {w w' : World} {d : Nat} {S : Nat → Prop} {r : DS × Int} {x : Ending} (h : Told B w d S r x w') {e : Int} (he : r.2 = e) : x = .returned (.int .i64 e) ∧ DkS (B + 1) w' d (Sx S w w') r.1 ∧ Fr S w w' := by
 rw [← he]; exact h
end Go.Proofs.YtjjcilinghgphaaGreat

/-! ### The chapter's examples (first). Written by a program (e17gen.py). -/
namespace Go.Proofs.YtjjcilinghgphaaGreat
open Go.RowKit Go.Maps Go.Sort
set_option maxRecDepth 100000
attribute [local go_sem] bs_size bs_toList

theorem Done.new {B : Int} {w w' w2 : World} {d : Nat} {S : Nat → Prop} {s : DS} (h : Done B w d S s w') (hb : Below w'.heap.size w' w2) : Done B w d S s w2 :=
 ⟨(h.1.below hb).mono (Int.le_refl _) (fun k hk => hk.elim .inl fun h => .inr ⟨h.1, Nat.lt_of_lt_of_le h.2 hb.size⟩) (fun k hk => by
  rcases hk with hk | hk
  · exact Nat.lt_of_lt_of_le (h.1.lt k (.inl hk)) hb.size
  · exact hk.2), h.2.trans (Fr.of_new hb)⟩
/-- A deed behind another, told by the first world. -/
theorem Done.told {B : Int} {w w1 w2 : World} {d : Nat} {S : Nat → Prop} {s : DS} {r : DS × Int} {x : Ending} (h : Done B w d S s w1) (k : Told B w1 d (Sx S w w1) r x w2) {e : Int} (he : r.2 = e) : x = .returned (.int .i64 e) ∧ Done (B + 1) w d S r.1 w2 := by
 rw [← he]
 exact ⟨k.1, Done.trans h.2 k.2⟩
theorem Done.off {B : Int} {w w1 : World} {d : Nat} {S : Nat → Prop} {s : DS} (h : Done B w d S s w1) : ∀ k, w1.heap.size ≤ k → ¬ Sx S w w1 k := fun k hk e => by have := h.1.lt k e; omega
end Go.Proofs.YtjjcilinghgphaaGreat

/-! ### A disk within a law; DiskSynced. -/
namespace Go.Proofs.YtjjcilinghgphaaGreat
open Go.RowKit Go.Maps Go.Sort
set_option maxRecDepth 100000
attribute [local go_sem] bs_size bs_toList

/-- A disk that a law made: in blocks from W's end on. -/
def LS (B : Int) (W w : World) (d : Nat) (S : Nat → Prop) (s : DS) : Prop := DkS B w d S s ∧ (∀ k, S k → W.heap.size ≤ k) ∧ Below W.heap.size W w
theorem LS.told {B : Int} {W w w' : World} {d : Nat} {S : Nat → Prop} {s : DS} {r : DS × Int} {x : Ending} (h : LS B W w d S s) (k : Told B w d S r x w') : x = .returned (.int .i64 r.2) ∧ LS (B + 1) W w' d (Sx S w w') r.1 ∧ Fr S w w' :=
 ⟨k.1, ⟨k.2.1, fun q hq => hq.elim (h.2.1 q) fun hq => Nat.le_trans h.2.2.size hq.1, h.2.2.trans (k.2.2.below h.2.2.size fun q hq hs => by have := h.2.1 q hs; omega)⟩, k.2.2⟩
theorem LS.done {B : Int} {W w w' : World} {d : Nat} {S : Nat → Prop} {s s' : DS} (h : LS B W w d S s) (k : Done B w d S s' w') : LS B W w' d (Sx S w w') s' ∧ Fr S w w' :=
 ⟨⟨k.1, fun q hq => hq.elim (h.2.1 q) fun hq => Nat.le_trans h.2.2.size hq.1, h.2.2.trans (k.2.below h.2.2.size fun q hq hs => by have := h.2.1 q hs; omega)⟩, k.2⟩
theorem LS.new {B : Int} {W w w' : World} {d : Nat} {S : Nat → Prop} {s : DS} (h : LS B W w d S s) (hb : Below w.heap.size w w') : LS B W w' d S s := ⟨h.1.below hb, h.2.1, h.2.2.trans (hb.mono h.2.2.size)⟩
theorem LS.start {B : Int} {W w : World} {d : Nat} {s : DS} (hb : Below W.heap.size W w) (h : DkS B w d (fun k => W.heap.size ≤ k ∧ k < w.heap.size) s) : LS B W w d (fun k => W.heap.size ≤ k ∧ k < w.heap.size) s := ⟨h, fun _ hk => hk.1, hb⟩
theorem LS.mono {B B' : Int} {W w : World} {d : Nat} {S : Nat → Prop} {s : DS} (h : LS B W w d S s) (hb : B ≤ B') : LS B' W w d S s := ⟨h.1.mono hb (fun _ h => h) h.1.lt, h.2⟩
theorem LS.old {B : Int} {W w : World} {d : Nat} {S : Nat → Prop} {s : DS} (h : LS B W w d S s) : ∀ k, k < W.heap.size → ¬ S k := fun k hk e => by have := h.2.1 k e; omega
/-! ### plain laws -/
def dataS (s : DS) (n : List UInt8) : List UInt8 := ((getF n s.fs).map Fl.dt).getD []
theorem get_crash (picks : List Int) (n : List UInt8) : ∀ (i : Nat) (l : List Fl), (∀ f, getF n l = some f → f.dt.length = f.sf) → getF n (crashL picks i l) = getF n l
 | _, [], _ => rfl
 | i, y :: r, h => by
  rw [crashL_cons]
  by_cases hy : y.nm == n
  · have hf : getF n (y :: r) = some y := by unfold getF; rw [List.find?_cons, hy]
    rw [if_pos (h y hf), hf]
    unfold getF; rw [List.find?_cons, hy]
  · have hyf : (y.nm == n) = false := Bool.eq_false_iff.2 hy
    have e : getF n (y :: r) = getF n r := by unfold getF; rw [List.find?_cons, hyf]
    rw [e] at h ⊢
    split
    · rw [← get_crash picks n i r h]
      unfold getF; rw [List.find?_cons, hyf]
    · rw [← get_crash picks n (i + 1) r h]
      unfold getF; rw [List.find?_cons]
      show (match y.nm == n with | true => _ | false => _) = _
      rw [hyf]
theorem errW_zero {s : DS} {e : Int} {g : DS → DS} (h : (errW s e g).2 = 0) : s.dn = false ∧ e = 0 ∧ (errW s e g).1 = g (fallS s).1 := by
 unfold errW at h ⊢
 cases hd : s.dn with
 | true => rw [hd] at h; simp at h
 | false =>
  rw [hd] at h
  by_cases he : e = 0
  · simp only [he, ne_eq, not_true, if_false] at h ⊢
    cases hf : (fallS s).2 with
    | true => rw [hf] at h; simp at h
    | false => simp
  · simp [he] at h
theorem errW_fs {s : DS} {e : Int} {g : DS → DS} (h : (errW s e g).2 ≠ 0) : (errW s e g).1.fs = s.fs := by
 unfold errW at h ⊢
 split
 · rfl
 · split
   · rfl
   · split
     · exact fallS_fs s
     · rename_i h1 h2 h3
       simp [h1, h2, h3] at h
theorem synced {s : DS} {nm tn : List UInt8} {picks : List Int} (h : (syncS s nm).2 = 0) :
 hasE (syncS s nm).1 nm = 0 ∧ hasE (crashS (renameS (syncS s nm).1 nm tn).1 picks) (if (renameS (syncS s nm).1 nm tn).2 = 0 then tn else nm) = 0 ∧
  dataS (crashS (renameS (syncS s nm).1 nm tn).1 picks) (if (renameS (syncS s nm).1 nm tn).2 = 0 then tn else nm) = dataS (syncS s nm).1 nm ∧
  ((renameS (syncS s nm).1 nm tn).2 = 0 → nm ≠ tn → hasE (crashS (renameS (syncS s nm).1 nm tn).1 picks) nm = 8) := by
 obtain ⟨hdn, he, h1⟩ := errW_zero h
 have hget : ∃ f, getF nm s.fs = some f := by
  unfold hasE at he
  cases hg : getF nm s.fs with
  | none => rw [hg] at he; cases he
  | some f => exact ⟨f, rfl⟩
 obtain ⟨f, hf⟩ := hget
 have hs1 : getF nm (syncS s nm).1.fs = some ⟨f.nm, f.dt, f.dt.length⟩ := by
  show getF nm (errW s (hasE s nm) _).1.fs = _
  rw [h1]
  show getF nm (updF nm _ (fallS s).1.fs) = _
  rw [fallS_fs]
  exact get_upd _ (fun _ => rfl) hf
 obtain ⟨s1, hs⟩ : ∃ s1, (syncS s nm).1 = s1 := ⟨_, rfl⟩
 rw [hs] at hs1 ⊢
 refine ⟨by unfold hasE; rw [hs1]; rfl, ?_⟩
 by_cases h2 : (renameS s1 nm tn).2 = 0
 · obtain ⟨_, he2, h3⟩ := errW_zero h2
   have hfs : (renameS s1 nm tn).1.fs = renL nm tn s1.fs := by
    show (errW s1 (renE s1 nm tn) _).1.fs = _
    rw [h3]
    show renL nm tn (fallS s1).1.fs = _
    rw [fallS_fs]
   simp only [h2, if_true]
   have hrl : renL nm tn s1.fs = if nm = tn then s1.fs else insF ⟨tn, f.dt, f.dt.length⟩ (delF tn (delF nm s1.fs)) := by unfold renL; rw [hs1]
   have hgt : ∃ x, getF tn (renL nm tn s1.fs) = some ⟨x, f.dt, f.dt.length⟩ := by
    rw [hrl]
    by_cases e : nm = tn
    · rw [if_pos e, ← e]; exact ⟨_, hs1⟩
    · rw [if_neg e]
      exact ⟨tn, get_ins_same (f := ⟨tn, f.dt, f.dt.length⟩) (fun g hg => (mem_del.1 hg).2)⟩
   obtain ⟨x, hx⟩ := hgt
   have hc : getF tn (crashS (renameS s1 nm tn).1 picks).fs = some ⟨x, f.dt, f.dt.length⟩ := by
    show getF tn (crashL picks 0 (renameS s1 nm tn).1.fs) = _
    rw [hfs, get_crash picks tn 0 _ (fun g hg => by rw [hx] at hg; cases hg; rfl)]
    exact hx
   refine ⟨by unfold hasE; rw [hc]; rfl, by unfold dataS; rw [hc, hs1]; rfl, fun _ hne => ?_⟩
   have hn : getF nm (renL nm tn s1.fs) = none := by
    rw [hrl, if_neg hne, get_ins_other hne, get_del_other hne]
    exact get_del_same _ _
   have hc2 : getF nm (crashS (renameS s1 nm tn).1 picks).fs = none := by
    show getF nm (crashL picks 0 (renameS s1 nm tn).1.fs) = _
    rw [hfs, get_crash picks nm 0 _ (fun g hg => by rw [hn] at hg; cases hg)]
    exact hn
   unfold hasE; rw [hc2]; rfl
 · have hfs : (renameS s1 nm tn).1.fs = s1.fs := errW_fs h2
   simp only [h2, if_false]
   have hc : getF nm (crashS (renameS s1 nm tn).1 picks).fs = some ⟨f.nm, f.dt, f.dt.length⟩ := by
    show getF nm (crashL picks 0 (renameS s1 nm tn).1.fs) = _
    rw [hfs, get_crash picks nm 0 _ (fun g hg => by rw [hs1] at hg; cases hg; rfl)]
    exact hs1
   exact ⟨by unfold hasE; rw [hc]; rfl, by unfold dataS; rw [hc, hs1], fun h => h.elim⟩
end Go.Proofs.YtjjcilinghgphaaGreat

/-! ### The walk of DiskSynced. -/
namespace Go.Proofs.YtjjcilinghgphaaGreat
open Go.RowKit Go.Maps Go.Sort
set_option maxRecDepth 100000
attribute [local go_sem] bs_size bs_toList

def TrueEnd (w : World) (e : Ending) (w' : World) : Prop := e = .returned (.bool true) ∧ Below w.heap.size w w'
theorem TrueEnd.mk {w w' : World} (h : Below w.heap.size w w') : TrueEnd w (.returned (.bool true)) w' := ⟨rfl, h⟩
theorem next_below {w w1 w2 : World} (h : Below w.heap.size w w1) (k : Below w1.heap.size w1 w2) : Below w.heap.size w w2 := h.trans (k.mono h.size)
end Go.Proofs.YtjjcilinghgphaaGreat
