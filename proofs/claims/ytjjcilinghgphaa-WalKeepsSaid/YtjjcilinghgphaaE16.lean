/-
  The laws' Few and first.
-/
import Derived.Test.YtjjcilinghgphaaE15
namespace Go.Proofs.Ytjjcilinghgphaa
open Go.RowKit Go.Maps Go.Sort
set_option maxRecDepth 100000
attribute [local go_sem] bs_size bs_toList

def wgt (o : OpV) : Nat := min o.nm.length 20001 + min o.tn.length 20001 + min o.b.length 20001
def wsum (os : List OpV) : Nat := (os.map wgt).sum
theorem wgt_le (o : OpV) : wgt o ≤ 60003 := by unfold wgt; omega
theorem wsum_le (os : List OpV) : wsum os ≤ os.length * 60003 := by
  induction os with
  | nil => simp [wsum]
  | cons o r ih => have := wgt_le o; simp only [wsum, List.map_cons, List.sum_cons, List.length_cons] at ih ⊢; omega
theorem wsum_snoc {os : List OpV} {k : Nat} {o : OpV} (h : os[k]? = some o) : wsum (os.take (k + 1)) = wsum (os.take k) + wgt o := by
  rw [List.take_add_one, h]; simp [wsum]
theorem wgt_mem {os : List OpV} {o : OpV} (h : o ∈ os) : wgt o ≤ wsum os := by
  induction os with
  | nil => cases h
  | cons y r ih =>
    simp only [wsum, List.map_cons, List.sum_cons] at ih ⊢
    rcases List.mem_cons.1 h with rfl | h
    · omega
    · have := ih h; omega
/-- Operations few and small. -/
def FewOk (os : List OpV) : Prop := os.length ≤ 300 ∧ wsum os ≤ 20000
theorem FewOk.each {os : List OpV} (h : FewOk os) {o : OpV} (ho : o ∈ os) : o.nm.length ≤ 20000 ∧ o.tn.length ≤ 20000 ∧ o.b.length ≤ 20000 := by
  have h1 := wgt_mem ho
  have h2 := h.2
  unfold wgt at h1
  omega
def FewPost (w : World) (os : List OpV) (e : Ending) (w' : World) : Prop := ∃ b : Bool, e = .returned (.bool b) ∧ (b = true → FewOk os) ∧ Below w.heap.size w w'
/-! ### the chapter's examples -/
def ex1 : DS := (createS newS [97]).1
def ex2 : DS := (createS ex1 [97]).1
def ex3 : DS := (appendS ex2 [98] []).1
def ex4 : DS := (appendS ex3 [97] [49, 50]).1
def ex5 : DS := (syncS ex4 [97]).1
def ex6 : DS := (appendS ex5 [97] [51, 52, 53]).1
def ex7 : DS := crashS ex6 [2]
theorem ex_a : (createS newS [97]).2 = 0 := by decide +kernel
theorem ex_b : (createS ex1 [97]).2 = 9 := by decide +kernel
theorem ex_c : (appendS ex2 [98] []).2 = 8 := by decide +kernel
theorem ex_e : (appendS ex3 [97] [49, 50]).2 = 0 := by decide +kernel
theorem ex_f : (syncS ex4 [97]).2 = 0 := by decide +kernel
theorem ex_g : (appendS ex5 [97] [51, 52, 53]).2 = 0 := by decide +kernel
theorem ex_h : hasE ex7 [97] = 0 := by decide +kernel
theorem ex_x : ((getF [97] ex7.fs).map Fl.dt).getD [] = [49, 50, 51, 52] := by decide +kernel
theorem ex_w : ex7.wr = 4 := by decide +kernel
theorem Told.at {B : Int} {w w' : World} {d : Nat} {S : Nat → Prop} {r : DS × Int} {x : Ending} (h : Told B w d S r x w') {e : Int} (he : r.2 = e) : x = .returned (.int .i64 e) ∧ DkS (B + 1) w' d (Sx S w w') r.1 ∧ Fr S w w' := by
  rw [← he]; exact h
end Go.Proofs.Ytjjcilinghgphaa
