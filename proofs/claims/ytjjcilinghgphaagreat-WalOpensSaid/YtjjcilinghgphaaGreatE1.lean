/-
 Plain laws: the disk of chapter 6 as lists: files by rising names, the writes, falls and crashes. No program in sight.
-/
import Derived.Test.YtjjcilinghgphaaGreatK3
import Derived.Maps.OwnSet
import Derived.Sort.KeysCollected
import Derived.WideAt
namespace Go.Proofs.YtjjcilinghgphaaGreat
open Go.RowKit Go.Maps

/-- A file: name, bytes, how many are safe. -/
structure Fl where
 nm : List UInt8
 dt : List UInt8
 sf : Nat
/-- A disk's state. -/
structure DS where
 fs : List Fl
 wr : Int
 ar : Int
 dn : Bool

def bB (a b : List UInt8) : Bool := bytesBefore a b
theorem bB_irrefl (a : List UInt8) : bB a a = false := WideAt.bytes_irrefl a
theorem bB_total {a b : List UInt8} (h : a ≠ b) : bB a b = true ∨ bB b a = true := WideAt.bytes_total a b h
theorem bB_trans {a b c : List UInt8} (h1 : bB a b = true) (h2 : bB b c = true) : bB a c = true := WideShapes.bytes_trans a b c h1 h2
theorem bB_ne {a b : List UInt8} (h : bB a b = true) : a ≠ b := fun e => by rw [e, bB_irrefl] at h; cases h
theorem bB_asymm {a b : List UInt8} (h : bB a b = true) : bB b a = false := by
 cases h2 : bB b a with
 | false => rfl
 | true => have := bB_trans h h2; rw [bB_irrefl] at this; cases this
theorem bB_lt : ∀ (a b : List UInt8), bB a b = decide (a < b)
 | [], [] => rfl
 | [], b :: s => by simp [bB, bytesBefore]
 | a :: r, [] => by simp [bB, bytesBefore]
 | a :: r, b :: s => by
  have ih := bB_lt r s
  unfold bB at ih ⊢
  rw [bytesBefore, ih, Bool.eq_iff_iff]
  simp [List.cons_lt_cons_iff]

/-- rising names -/
def Srt (l : List Fl) : Prop := l.Pairwise fun a b => bB a.nm b.nm = true
def insF (f : Fl) : List Fl → List Fl
 | [] => [f]
 | y :: r => if bB f.nm y.nm then f :: y :: r else y :: insF f r
def delF (n : List UInt8) (l : List Fl) : List Fl := l.filter fun f => !(f.nm == n)
def getF (n : List UInt8) (l : List Fl) : Option Fl := l.find? fun f => f.nm == n
def updF (n : List UInt8) (g : Fl → Fl) (l : List Fl) : List Fl := l.map fun f => if f.nm == n then g f else f
def tot (l : List Fl) : Nat := (l.map fun f => f.dt.length).sum
def nameOk (n : List UInt8) : Bool := decide (1 ≤ n.length) && decide (n.length ≤ 20)

theorem mem_insF {f g : Fl} : ∀ {l : List Fl}, g ∈ insF f l ↔ g = f ∨ g ∈ l
 | [] => by simp [insF]
 | y :: r => by
  unfold insF
  split
  · simp
  · simp only [List.mem_cons, mem_insF (l := r)]
    constructor
    · rintro (h | h | h) <;> simp [h]
    · rintro (h | h | h) <;> simp [h]
theorem insF_perm (f : Fl) : ∀ l : List Fl, (insF f l).Perm (f :: l)
 | [] => .refl _
 | y :: r => by
  unfold insF
  split
  · exact .refl _
  · exact ((insF_perm f r).cons y).trans (.swap f y r)
theorem srt_ins {f : Fl} : ∀ {l : List Fl}, Srt l → (∀ g ∈ l, g.nm ≠ f.nm) → Srt (insF f l)
 | [], _, _ => by simp [insF, Srt]
 | y :: r, h, hn => by
  obtain ⟨h1, h2⟩ := List.pairwise_cons.1 h
  unfold insF
  split
  · rename_i hb
    refine List.pairwise_cons.2 ⟨fun q hq => ?_, h⟩
    rcases List.mem_cons.1 hq with rfl | hq
    · exact hb
    · exact bB_trans hb (h1 q hq)
  · rename_i hb
    have hyf : bB y.nm f.nm = true := by
     rcases bB_total (hn y (by simp)).symm with h' | h'
     · exact absurd h' hb
     · exact h'
    refine List.pairwise_cons.2 ⟨fun q hq => ?_, srt_ins h2 fun g hg => hn g (by simp [hg])⟩
    rcases mem_insF.1 hq with rfl | hq
    · exact hyf
    · exact h1 q hq
theorem srt_del {l : List Fl} (h : Srt l) (n : List UInt8) : Srt (delF n l) := h.filter _
theorem srt_upd {l : List Fl} (h : Srt l) (n : List UInt8) (g : Fl → Fl) (hg : ∀ f, (g f).nm = f.nm) : Srt (updF n g l) := by
 refine List.pairwise_map.2 (h.imp fun {a b} hab => ?_)
 have e : ∀ f : Fl, (if f.nm == n then g f else f).nm = f.nm := fun f => by split <;> simp [hg]
 rw [e, e]; exact hab
theorem srt_eq {l l' : List Fl} (hp : l.Perm l') (h : Srt l) (h' : Srt l') : l = l' := by
 refine List.Perm.eq_of_pairwise (le := fun (a b : Fl) => bB a.nm b.nm = true) (fun a b _ _ h1 h2 => ?_) h h' hp
 have := bB_trans h1 h2; rw [bB_irrefl] at this; cases this
theorem del_ins_other {f : Fl} {l : List Fl} {n : List UInt8} (h : Srt l) (hn : ∀ g ∈ l, g.nm ≠ f.nm) (hne : f.nm ≠ n) : delF n (insF f l) = insF f (delF n l) := by
 refine srt_eq ?_ (srt_del (srt_ins h hn) n) (srt_ins (srt_del h n) fun g hg => hn g (List.mem_filter.1 hg).1)
 refine ((insF_perm f l).filter _).trans ?_
 rw [List.filter_cons_of_pos (by simpa using hne)]
 exact (insF_perm f _).symm
theorem del_comm (l : List Fl) (a b : List UInt8) : delF a (delF b l) = delF b (delF a l) := by
 unfold delF
 rw [List.filter_filter, List.filter_filter]
 congr 1
 funext f
 rw [Bool.and_comm]
theorem del_none {l : List Fl} {n : List UInt8} (h : getF n l = none) : delF n l = l := by
 unfold delF
 rw [List.filter_eq_self]
 intro f hf
 have := List.find?_eq_none.1 h f hf
 simpa using this
theorem getF_some {l : List Fl} {n : List UInt8} {f : Fl} (h : getF n l = some f) : f ∈ l ∧ f.nm = n := ⟨List.mem_of_find?_eq_some h, by simpa using List.find?_some h⟩
theorem getF_none {l : List Fl} {n : List UInt8} (h : getF n l = none) : ∀ f ∈ l, f.nm ≠ n := fun f hf => by simpa using List.find?_eq_none.1 h f hf
theorem mem_del {l : List Fl} {n : List UInt8} {f : Fl} : f ∈ delF n l ↔ f ∈ l ∧ f.nm ≠ n := by unfold delF; rw [List.mem_filter]; simp
theorem srt_nm {l : List Fl} (h : Srt l) : l.Pairwise fun a b => a.nm ≠ b.nm := h.imp fun hab => bB_ne hab
theorem srt_one {l : List Fl} (h : Srt l) {f g : Fl} (hf : f ∈ l) (hg : g ∈ l) (e : f.nm = g.nm) : f = g := by
 induction l with
 | nil => cases hf
 | cons y r ih =>
  obtain ⟨h1, h2⟩ := List.pairwise_cons.1 h
  rcases List.mem_cons.1 hf with hf' | hf' <;> rcases List.mem_cons.1 hg with hg' | hg'
  · rw [hf', hg']
  · subst hf'; exact absurd e (bB_ne (h1 g hg'))
  · subst hg'; exact absurd e.symm (bB_ne (h1 f hf'))
  · exact ih h2 hf' hg'
theorem tot_perm {l l' : List Fl} (h : l.Perm l') : tot l = tot l' := (h.map _).sum_nat
theorem tot_cons (f : Fl) (l : List Fl) : tot (f :: l) = f.dt.length + tot l := by simp [tot]
theorem tot_ins (f : Fl) (l : List Fl) : tot (insF f l) = f.dt.length + tot l := by rw [tot_perm (insF_perm f l), tot_cons]
theorem len_ins (f : Fl) (l : List Fl) : (insF f l).length = l.length + 1 := (insF_perm f l).length_eq
theorem get_split {l : List Fl} (h : Srt l) {n : List UInt8} {f : Fl} (hg : getF n l = some f) : l.Perm (f :: delF n l) := by
 induction l with
 | nil => simp [getF] at hg
 | cons y r ih =>
  obtain ⟨h1, h2⟩ := List.pairwise_cons.1 h
  unfold getF at hg
  rw [List.find?_cons] at hg
  by_cases hy : y.nm == n
  · rw [hy] at hg
    simp only [Option.some.injEq] at hg
    subst hg
    have : delF n (y :: r) = r := by
     unfold delF
     rw [List.filter_cons_of_neg (by simp [hy]), List.filter_eq_self]
     intro g hg
     have := bB_ne (h1 g hg)
     rw [beq_iff_eq] at hy
     subst hy
     simpa using this.symm
    rw [this]
  · rw [Bool.eq_false_iff.2 hy] at hg
    have : delF n (y :: r) = y :: delF n r := by unfold delF; rw [List.filter_cons_of_pos (by simpa using hy)]
    rw [this]
    exact ((ih h2 hg).cons y).trans (.swap _ _ _)
theorem tot_del {l : List Fl} (h : Srt l) {n : List UInt8} {f : Fl} (hg : getF n l = some f) : tot l = f.dt.length + tot (delF n l) := by
 rw [tot_perm (get_split h hg), tot_cons]
theorem len_del {l : List Fl} (h : Srt l) {n : List UInt8} {f : Fl} (hg : getF n l = some f) : l.length = (delF n l).length + 1 := (get_split h hg).length_eq
theorem upd_none {l : List Fl} {n : List UInt8} (g : Fl → Fl) (h : getF n l = none) : updF n g l = l := by
 unfold updF
 conv => rhs; rw [← List.map_id l]
 refine List.map_congr_left fun f hf => ?_
 have := getF_none h f hf
 rw [if_neg (by simpa using this)]; rfl
theorem del_upd {l : List Fl} {n : List UInt8} (g : Fl → Fl) (hg : ∀ f, (g f).nm = f.nm) : delF n (updF n g l) = delF n l := by
 induction l with
 | nil => rfl
 | cons y r ih =>
  unfold delF updF at ih ⊢
  rw [List.map_cons]
  by_cases hy : y.nm == n
  · rw [if_pos hy, List.filter_cons_of_neg (by simp [hg, hy]), List.filter_cons_of_neg (by simp [hy]), ih]
  · rw [if_neg hy, List.filter_cons_of_pos (by simpa using hy), List.filter_cons_of_pos (by simpa using hy), ih]
theorem get_upd {l : List Fl} {n : List UInt8} {f : Fl} (g : Fl → Fl) (hg : ∀ f, (g f).nm = f.nm) (h : getF n l = some f) : getF n (updF n g l) = some (g f) := by
 induction l with
 | nil => simp [getF] at h
 | cons y r ih =>
  unfold getF at h ih ⊢
  unfold updF at ih ⊢
  rw [List.find?_cons] at h
  rw [List.map_cons, List.find?_cons]
  by_cases hy : y.nm == n
  · rw [hy] at h
    simp only [Option.some.injEq] at h
    subst h
    rw [if_pos hy, hg, hy]
  · rw [Bool.eq_false_iff.2 hy] at h
    rw [if_neg hy, Bool.eq_false_iff.2 hy]
    exact ih h
theorem get_upd_other {l : List Fl} {n k : List UInt8} (g : Fl → Fl) (hg : ∀ f, (g f).nm = f.nm) (hne : k ≠ n) : getF k (updF n g l) = getF k l := by
 induction l with
 | nil => rfl
 | cons y r ih =>
  unfold getF updF at ih ⊢
  rw [List.map_cons, List.find?_cons, List.find?_cons, ih]
  by_cases hy : y.nm == n
  · rw [if_pos hy, hg]
    rw [beq_iff_eq] at hy
    have : (y.nm == k) = false := by rw [hy]; simpa using hne.symm
    rw [this]
  · rw [if_neg hy]
theorem tot_upd {l : List Fl} (h : Srt l) {n : List UInt8} {f : Fl} (g : Fl → Fl) (hg : ∀ f, (g f).nm = f.nm) (hf : getF n l = some f) : tot (updF n g l) = (g f).dt.length + tot (delF n l) := by
 rw [tot_del (srt_upd h n g hg) (get_upd g hg hf), del_upd g hg]
theorem len_upd (l : List Fl) (n : List UInt8) (g : Fl → Fl) : (updF n g l).length = l.length := by simp [updF]
theorem get_del_same (l : List Fl) (n : List UInt8) : getF n (delF n l) = none := by
 unfold getF
 rw [List.find?_eq_none]
 intro f hf
 simpa using (mem_del.1 hf).2
theorem get_del_other {l : List Fl} {n k : List UInt8} (h : k ≠ n) : getF k (delF n l) = getF k l := by
 induction l with
 | nil => rfl
 | cons y r ih =>
  unfold getF delF at ih ⊢
  by_cases hy : y.nm == n
  · rw [List.filter_cons_of_neg (by simp [hy]), ih, List.find?_cons]
    rw [beq_iff_eq] at hy
    have : (y.nm == k) = false := by rw [hy]; simpa using h.symm
    rw [this]
  · rw [List.filter_cons_of_pos (by simpa using hy), List.find?_cons, List.find?_cons, ih]
theorem get_ins_same {f : Fl} {l : List Fl} (h : ∀ g ∈ l, g.nm ≠ f.nm) : getF f.nm (insF f l) = some f := by
 induction l with
 | nil => simp [insF, getF]
 | cons y r ih =>
  unfold insF
  split
  · simp [getF]
  · have hy : (y.nm == f.nm) = false := by simpa using h y (by simp)
    unfold getF at ih ⊢
    rw [List.find?_cons, hy]
    exact ih fun g hg => h g (by simp [hg])
theorem get_ins_other {f : Fl} {k : List UInt8} (h : k ≠ f.nm) : ∀ l : List Fl, getF k (insF f l) = getF k l
 | [] => by unfold getF insF; simp [h.symm]
 | y :: r => by
  have ih := get_ins_other h r
  unfold insF
  split
  · unfold getF
    rw [List.find?_cons]
    have : (f.nm == k) = false := by simpa using h.symm
    rw [this]
  · unfold getF at ih ⊢
    rw [List.find?_cons, List.find?_cons, ih]

/-! ### the writes -/
/-- Is this write the last one of this life? -/
def fallS (s : DS) : DS × Bool :=
 if 0 < s.ar then (if s.ar = 1 then ({ s with ar := 0, dn := true }, true) else ({ s with ar := s.ar - 1, wr := s.wr + 1 }, false)) else ({ s with wr := s.wr + 1 }, false)
/-- A write: its own error first. -/
def errW (s : DS) (e : Int) (g : DS → DS) : DS × Int :=
 if s.dn then (s, 12) else if e ≠ 0 then (s, e) else if (fallS s).2 then ((fallS s).1, 12) else (g (fallS s).1, 0)
def hasE (s : DS) (n : List UInt8) : Int := if (getF n s.fs).isNone then 8 else 0
def creE (s : DS) (n : List UInt8) : Int := if !nameOk n then 10 else if (getF n s.fs).isSome then 9 else if 64 ≤ s.fs.length then 3 else 0
def cutE (s : DS) (n : List UInt8) (k : Int) : Int := match getF n s.fs with
 | none => 8
 | some f => if k < 0 ∨ (f.dt.length : Int) < k then 1 else 0
def renE (s : DS) (a b : List UInt8) : Int := if (getF a s.fs).isNone then 8 else if !nameOk b then 10 else 0
def createS (s : DS) (n : List UInt8) : DS × Int := errW s (creE s n) fun s => { s with fs := insF ⟨n, [], 0⟩ s.fs }
def syncS (s : DS) (n : List UInt8) : DS × Int := errW s (hasE s n) fun s => { s with fs := updF n (fun f => ⟨f.nm, f.dt, f.dt.length⟩) s.fs }
def cutS (s : DS) (n : List UInt8) (k : Int) : DS × Int := errW s (cutE s n k) fun s => { s with fs := updF n (fun f => ⟨f.nm, f.dt.take k.toNat, min f.sf k.toNat⟩) s.fs }
def renL (a b : List UInt8) (l : List Fl) : List Fl := match getF a l with
 | none => l
 | some f => if a = b then l else insF ⟨b, f.dt, f.sf⟩ (delF b (delF a l))
def renameS (s : DS) (a b : List UInt8) : DS × Int := errW s (renE s a b) fun s => { s with fs := renL a b s.fs }
def removeS (s : DS) (n : List UInt8) : DS × Int := errW s (hasE s n) fun s => { s with fs := delF n s.fs }
def appE (s : DS) (n : List UInt8) (b : List UInt8) : Int := if s.dn then 12 else if (getF n s.fs).isNone then 8 else if 4194304 < b.length + tot s.fs then 11 else 0
def appendS (s : DS) (n b : List UInt8) : DS × Int :=
 if appE s n b ≠ 0 then (s, appE s n b) else
  ({ (fallS s).1 with fs := updF n (fun f => ⟨f.nm, f.dt ++ b, f.sf⟩) s.fs }, if (fallS s).2 then 12 else 0)
def armS (s : DS) (n : Int) : DS := if s.dn then s else { s with ar := max n 0 }
/-- What a crash leaves. -/
def keepN (picks : List Int) (i : Nat) (loose : Nat) : Nat :=
 match picks[i]? with
 | some p => if 0 ≤ p then (p % ((loose : Int) + 1)).toNat else 0
 | none => 0
def crashL (picks : List Int) : Nat → List Fl → List Fl
 | _, [] => []
 | i, f :: r => if f.dt.length = f.sf then f :: crashL picks i r else
  ⟨f.nm, f.dt.take (f.sf + keepN picks i (f.dt.length - f.sf)), f.sf + keepN picks i (f.dt.length - f.sf)⟩ :: crashL picks (i + 1) r
def crashS (s : DS) (picks : List Int) : DS := { s with fs := crashL picks 0 s.fs, dn := false, ar := 0 }
def newS : DS := ⟨[], 0, 0, false⟩

/-- What always holds. -/
structure DOk (B : Int) (s : DS) : Prop where
 srt : Srt s.fs
 each : ∀ f ∈ s.fs, 1 ≤ f.nm.length ∧ f.nm.length ≤ 20 ∧ f.sf ≤ f.dt.length
 tot : tot s.fs ≤ 4194304
 len : s.fs.length ≤ 64
 ar0 : 0 ≤ s.ar
 ar1 : s.ar ≤ 9223372036854775807
 wr0 : 0 ≤ s.wr
 wr1 : s.wr ≤ B
theorem DOk.mono {B B' : Int} {s : DS} (h : DOk B s) (hb : B ≤ B') : DOk B' s := { h with wr1 := Int.le_trans h.wr1 hb }
theorem fallS_fs (s : DS) : (fallS s).1.fs = s.fs := by unfold fallS; split <;> (try split) <;> rfl
theorem DOk.fall {B : Int} {s : DS} (h : DOk B s) : DOk (B + 1) (fallS s).1 := by
 have h1 := h.ar0; have h2 := h.ar1; have h3 := h.wr0; have h4 := h.wr1
 refine ⟨by rw [fallS_fs]; exact h.srt, by rw [fallS_fs]; exact h.each, by rw [fallS_fs]; exact h.tot, by rw [fallS_fs]; exact h.len, ?_, ?_, ?_, ?_⟩ <;>
  (unfold fallS; split <;> (try split) <;> simp only [] <;> omega)
theorem DOk.fs {B : Int} {s : DS} (h : DOk B s) {l : List Fl} (h1 : Srt l) (h2 : ∀ f ∈ l, 1 ≤ f.nm.length ∧ f.nm.length ≤ 20 ∧ f.sf ≤ f.dt.length) (h3 : Go.Proofs.YtjjcilinghgphaaGreat.tot l ≤ 4194304) (h4 : l.length ≤ 64) : DOk B { s with fs := l } :=
 ⟨h1, h2, h3, h4, h.ar0, h.ar1, h.wr0, h.wr1⟩
theorem nameOk_iff (n : List UInt8) : nameOk n = true ↔ 1 ≤ n.length ∧ n.length ≤ 20 := by simp [nameOk]
theorem getF_isSome_false {l : List Fl} {n : List UInt8} (h : ¬ (getF n l).isSome = true) : getF n l = none := by simpa using h
theorem DOk.ins {B : Int} {s : DS} (h : DOk B s) {n : List UInt8} (hn : nameOk n = true) (hg : getF n s.fs = none) (hl : s.fs.length < 64) : DOk B { s with fs := insF ⟨n, [], 0⟩ s.fs } := by
 refine h.fs (srt_ins h.srt fun g hg' => getF_none hg g hg') (fun f hf => ?_) (by rw [tot_ins]; simpa using h.tot) (by rw [len_ins]; omega)
 rcases mem_insF.1 hf with rfl | hf
 · have := (nameOk_iff n).1 hn; exact ⟨this.1, this.2, Nat.zero_le _⟩
 · exact h.each f hf
theorem DOk.upd {B : Int} {s : DS} (h : DOk B s) {n : List UInt8} {f : Fl} (hg : getF n s.fs = some f) (g : Fl → Fl) (hn : ∀ f, (g f).nm = f.nm) (hs : (g f).sf ≤ (g f).dt.length) (ht : (g f).dt.length + Go.Proofs.YtjjcilinghgphaaGreat.tot s.fs ≤ 4194304 + f.dt.length) :
 DOk B { s with fs := updF n g s.fs } := by
 refine h.fs (srt_upd h.srt n g hn) (fun x hx => ?_) ?_ (by rw [len_upd]; exact h.len)
 · obtain ⟨y, hy, rfl⟩ := List.mem_map.1 hx
   have he := h.each y hy
   by_cases e : y.nm == n
   · rw [if_pos e]
     have := srt_one h.srt hy (getF_some hg).1 (by rw [(getF_some hg).2]; simpa using e)
     subst this
     exact ⟨by rw [hn]; exact he.1, by rw [hn]; exact he.2.1, hs⟩
   · rw [if_neg e]; exact he
 · rw [tot_upd h.srt g hn hg]
   have := tot_del h.srt hg
   omega
theorem DOk.del {B : Int} {s : DS} (h : DOk B s) (n : List UInt8) : DOk B { s with fs := delF n s.fs } := by
 refine h.fs (srt_del h.srt n) (fun f hf => h.each f (mem_del.1 hf).1) ?_ (Nat.le_trans (List.length_filter_le _ _) h.len)
 cases hg : getF n s.fs with
 | none => rw [del_none hg]; exact h.tot
 | some f => have := tot_del h.srt hg; have := h.tot; omega
theorem tot_del_le {l : List Fl} (h : Srt l) (n : List UInt8) : tot (delF n l) ≤ tot l := by
 cases hg : getF n l with
 | none => rw [del_none hg]; exact Nat.le_refl _
 | some f => have := tot_del h hg; omega
/-- The program's way of giving another name: the elder one last. -/
theorem ren_other {l : List Fl} (h : Srt l) {a b : List UInt8} (hne : a ≠ b) (f : Fl) : delF a (insF ⟨b, f.dt, f.sf⟩ (delF b l)) = insF ⟨b, f.dt, f.sf⟩ (delF b (delF a l)) := by
 rw [del_ins_other (srt_del h b) (fun g hg => (mem_del.1 hg).2) (fun e => hne e.symm), del_comm]
theorem DOk.errW {B : Int} {s : DS} (h : DOk B s) (e : Int) (g : DS → DS) (hg : s.dn = false → e = 0 → DOk (B + 1) (g (fallS s).1)) : DOk (B + 1) (errW s e g).1 := by
 unfold Go.Proofs.YtjjcilinghgphaaGreat.errW
 split
 · exact h.mono (by omega)
 · split
   · exact h.mono (by omega)
   · split
     · exact h.fall
     · rename_i h1 h2 _
       exact hg (by simpa using h1) (by omega)
theorem crash_nm (picks : List Int) : ∀ (i : Nat) (l : List Fl), (crashL picks i l).map Fl.nm = l.map Fl.nm
 | _, [] => rfl
 | i, f :: r => by
  unfold crashL
  split <;> simp [crash_nm picks _ r]
theorem keepN_le (picks : List Int) (i loose : Nat) : keepN picks i loose ≤ loose := by
 unfold keepN
 split
 · rename_i p _
   split
   · have h1 := Int.emod_nonneg p (show (loose : Int) + 1 ≠ 0 by omega)
     have h2 := Int.emod_lt_of_pos p (show (0 : Int) < (loose : Int) + 1 by omega)
     omega
   · omega
 · omega
/-- What a crash leaves of each file. -/
theorem crash_each (picks : List Int) (P : Fl → Fl → Prop) (h0 : ∀ f : Fl, f.dt.length = f.sf → P f f) (h1 : ∀ (f : Fl) (k : Nat), f.dt.length ≠ f.sf → k ≤ f.dt.length - f.sf → P f ⟨f.nm, f.dt.take (f.sf + k), f.sf + k⟩) :
 ∀ (i : Nat) (l : List Fl) (j : Nat) (f : Fl), l[j]? = some f → ∃ g, (crashL picks i l)[j]? = some g ∧ P f g
 | _, [], _, _, h => by simp at h
 | i, y :: r, j, f, h => by
  unfold crashL
  cases j with
  | zero =>
   simp only [List.getElem?_cons_zero, Option.some.injEq] at h
   subst h
   split
   · exact ⟨_, rfl, h0 _ (by assumption)⟩
   · exact ⟨_, rfl, h1 _ _ (by assumption) (keepN_le _ _ _)⟩
  | succ j =>
   simp only [List.getElem?_cons_succ] at h
   split
   · exact crash_each picks P h0 h1 i r j f h
   · exact crash_each picks P h0 h1 (i + 1) r j f h
theorem tot_crash (picks : List Int) : ∀ (i : Nat) (l : List Fl), tot (crashL picks i l) ≤ tot l
 | _, [] => Nat.le_refl _
 | i, f :: r => by
  unfold crashL
  split
  · rw [tot_cons, tot_cons]; have := tot_crash picks i r; omega
  · rw [tot_cons, tot_cons]; have := tot_crash picks (i + 1) r; have : (f.dt.take (f.sf + keepN picks i (f.dt.length - f.sf))).length ≤ f.dt.length := List.length_take_le' _ _; simp only []; omega
theorem srt_of_nm : ∀ {l l' : List Fl}, l'.map Fl.nm = l.map Fl.nm → Srt l → Srt l' := by
 intro l l' h hs
 have h1 : (l.map Fl.nm).Pairwise fun a b => bB a b = true := List.pairwise_map.2 hs
 rw [← h] at h1
 exact List.pairwise_map.1 h1
end Go.Proofs.YtjjcilinghgphaaGreat
